/- AtomTorn: a part of its proof; conditions: its statement's. -/
import Derived.Test.YtconhghphklfjaaGreatT06
namespace Go.Proofs.YtconhghphklfjaaGreat.Am
open Go
section
variable {P:Program} {c:Ctx} {σ:H} {w:World}
theorem J4 {k n:Nat}{x:V}{new:List V}(h:Rel c σ w)(I:srcV σ k x=some (new,n))(hx:wf c x):
  (Builtin.lenOf (conc c x)).run P w=.ok n w∧(Builtin.firstCells k n (conc c x)).run P w=.ok ((new.map (conc c)).toArray) w ∧
   new.length=n*k∧∀v∈new,wf c v∧storable v=true:=by
 unfold srcV at I
 split at I
 ·simp only [au,aP] at I
  obtain ⟨rfl,rfl⟩:=I
  exact ⟨by simp [Builtin.lenOf,conc],by simp [Builtin.firstCells,conc],by simp,by simp⟩
 ·simp only [au,aP] at I
  obtain ⟨rfl,rfl⟩:=I
  exact ⟨by simp [Builtin.lenOf,conc],by simp [Builtin.firstCells,conc,loadCells,loadCellsFrom],by simp,by simp⟩
 ·rename_i id off len cap
  cases J:rdN σ id off (len*k) with
  | none=>simp [J] at I
  | some cs =>
   simp [J] at I
   obtain ⟨rfl,rfl⟩:=I
   obtain ⟨a,m,h1,h2,_,_⟩:=AT (P:=P) h hx J (fun e=>by rw [e]; simp)
   obtain ⟨h3,h4,_⟩:=ug h J
   rw [h1]
   exact ⟨by simp [Builtin.lenOf],by simp [Builtin.firstCells,h2],h3,h4⟩
 ·rename_i l
  cases J:Nat.beq k 1 with
  | false=>simp [J] at I
  | true =>
   have:=beq_iff.1 J
   subst this
   simp only [J,ag,au,aP] at I
   obtain ⟨rfl,rfl⟩:=I
   have hl:∀y∈l,y<256:=by simpa [wf] using hx
   have U:(⟨(l.map UInt8.ofNat).toArray⟩:ByteArray).size=l.length:=by simp [ByteArray.size]
   refine ⟨by simp [Builtin.lenOf,conc,U],?_,by simp [ofBytes],fun v hv => ?_⟩
   ·simp only [Builtin.firstCells,conc,Sem.run_pure]
    have:((⟨(l.map UInt8.ofNat).toArray⟩:ByteArray).extract 0 l.length)=⟨(l.map UInt8.ofNat).toArray⟩:=by
     apply tN
     simp [fR]
    rw [this,yP c hl]
   ·obtain ⟨n,rfl⟩:=vB hv
    exact ⟨by simp [wf],rfl⟩
 ·simp at I
theorem append_room {U:Array TypeId}{t u ty e:TypeId}{i:TypeInfo}{du:TypeDesc}(h0:U[0]?=some t)(h1:U[1]?=some u)(ht:P.underlying t=some (.slice e))(hu:P.underlying u=some du)
 (M9:∀k,du≠.int k)(hi:P.info? e=some i)(base:Option Addr)(I J n:Nat)(x:Value)(new:Array Value)
 (hl:(Builtin.lenOf x).run P w=.ok n w)(hf:(Builtin.firstCells i.size n x).run P w=.ok new w)(hle:I+n≤J):
  (Builtin.append_ U ty #[.slice base I J,x]).run P w=match base with
   | none=>.ok (.slice none (I+n) J) w
   | some a=>((storeCells (a.add (I*i.size)) new.toList).run P w).andThen fun _ w'=>.ok (.slice (some a) (I+n) J) w':=by
 have eX:(sizeOf e).run P w=.ok i.size w:=by simp [sizeOf,typeInfo,hi]
 simp only [Builtin.append_,h0,h1,m6,nU,kF,Sem.run_bind,run_underlying ht,run_underlying hu,Result.andThen_ok,eX]
 cases du
 case int k=>exact absurd rfl (M9 k)
 all_goals simp only [Sem.run_pure,Result.andThen_ok,eY,bN,hl,hle,bQ,Sem.run_bind,hf,D_]
 all_goals cases base <;> simp
theorem w9 {n b:Nat}: mU n b=true↔n≤140737488355328∧n*b≤140737488355328:=by
 unfold mU
 rw [aZ,aQ,aQ]
theorem vC {U:Array TypeId}{t u ty e:TypeId}{i:TypeInfo}{du:TypeDesc}{z:Value}(h0:U[0]?=some t)(h1:U[1]?=some u)(ht:P.underlying t=some (.slice e))
 (hu:P.underlying u=some du)(M9:∀k,du≠.int k)(hi:P.info? e=some i)(yI:i.zero=some z)(base:Option Addr)(I J n:Nat)(x:Value)(old new:Array Value)
 (hl:(Builtin.lenOf x).run P w=.ok n w)(hf:(Builtin.firstCells i.size n x).run P w.drew=.ok new w.drew)
 (ho:(Builtin.firstCells i.size I (.slice base I J)).run P w.drew=.ok old w.drew)(hg:J<I+n)(hb:mU (I+n) i.bytes=true):
  ∃cap,I+n≤cap∧(Builtin.append_ U ty #[.slice base I J,x]).run P w =
   .ok (.slice (some ⟨w.heap.size,0,none⟩) (I+n) cap) (w.drew.alloc (.cells (old++new++Builtin.zeroCells z.cells (cap-(I+n))) e)):=by
 have eX:∀w,(sizeOf e).run P w=.ok i.size w:=fun w=>by simp [sizeOf,typeInfo,hi]
 have M8:∀w,(typeInfo e).run P w=.ok i w:=fun w=>by simp [typeInfo,hi]
 have M_:∀w,(zeroValue e).run P w=.ok z w:=fun w=>by simp [zeroValue,typeInfo,hi,yI]
 have hn:¬ (I+n≤J):=by omega
 obtain ⟨yc,pR⟩:=w9.1 hb
 have h63:¬ (((I+n:Nat):Int)>IntKind.i64.max):=by
  rw [IntKind.max_i64]; omega
 have h48:¬ (Builtin.nextslicecap (I+n) J*i.bytes>2^48):=by
  have:=growslice_fits (need:=I+n) (old:=J) (bytes:=i.bytes) hg pR
  omega
 refine ⟨(Question.appendCap (I+n) J e).cut (w.tape w.drawn (.appendCap (I+n) J e)),by simp [Question.cut],?_⟩
 simp only [Builtin.append_,h0,h1,m6,nU,kF,Sem.run_bind,run_underlying ht,run_underlying hu,Result.andThen_ok,eX]
 cases du
 case int k=>exact absurd rfl (M9 k)
 all_goals simp only [Sem.run_pure,Result.andThen_ok,eY,bN,hl,hn,M8,Sem.run_bind,h63,false_and,h48,D_,bQ,run_choose,Question.forced,run_askRoom]
 all_goals simp only [World.drew_eq,ho,hf,M_,Result.andThen_ok,Go.newRow,Sem.run_bind,run_newObj,Sem.run_pure,World.alloc_eq]
 all_goals rfl
theorem Eg (z:Array Value)(n:Nat): (Builtin.zeroCells z n).size=n*z.size:=by simp [Builtin.zeroCells]
theorem yR {e:TypeId}{k:Nat}{old new:List V}{need cap:Nat}{zs:Array Value}(h:Rel c σ w)(hk:1≤k)(ho:∀v∈old,wf c v∧storable v=true)(hn:∀v∈new,wf c v∧storable v=true)
 (hlen:old.length+new.length=need*k)(aab:need≤cap)(hzs:zs.size=(cap-need)*k):
  ∃c',conc c' (.sl σ.next 0 need (.rest k 0))=.slice (some ⟨w.heap.size,0,none⟩) need cap∧wf c' (.sl σ.next 0 need (.rest k 0)) ∧
   Rel c' (n4 σ k old new need).2 (w.drew.alloc (.cells ((old.map (conc c)).toArray++(new.map (conc c)).toArray++zs) e)) ∧
   dL c w c' (w.drew.alloc (.cells ((old.map (conc c)).toArray++(new.map (conc c)).toArray++zs) e)):=by
 have qS:∀v∈old++new,wf c v∧storable v=true:=fun v hv=>by
  rcases List.mem_append.1 hv with hv | hv
  ·exact ho v hv
  ·exact hn v hv
 obtain ⟨g1,g2⟩:=h.drew.newRow qS e zs.toList
 have J:(((old++new).map (conc c))++zs.toList).toArray=(old.map (conc c)).toArray++(new.map (conc c)).toArray++zs:=by
  apply mw
  simp
 have eX:(old++new).length+zs.toList.length=cap*k:=by
  simp only [bC,DW,hlen,hzs]
  rw [←iE]
  congr 1
  omega
 have kx:(old++new).length=need*k:=by simpa using hlen
 rw [J,eX,kx] at g1
 rw [J,eX] at g2
 refine ⟨_,?_,?_,g1,(dL.drew c w).trans g2⟩
 ·have U:(c.grow w.heap.size 0 (cap*k)).room σ.next 0 k=cap:=by
   simp only [Ctx.room,h.next,Ctx.grow,bQ,kH,iY]
   exact DY cap (by omega)
  have I:(c.grow w.drew.heap.size 0 (cap*k)).room σ.next 0 k=cap:=U
  simp only [conc,I]
  simp [h.next,Ctx.grow]
 ·have I:(c.grow w.drew.heap.size 0 (cap*k)).room σ.next 0 k=cap:=by
   simp only [Ctx.room,h.next,Ctx.grow,World.size_drew,bQ,kH,iY]
   exact DY cap (by omega)
  simp only [wf,I]
  exact ⟨by rw [h.next,lG]; omega,hk,aab⟩
def Ctx.at (c:Ctx)(id off:Nat): Ctx:=⟨fun i=>if i=c.N then ((c.ρ id).1,(c.ρ id).2+off) else c.ρ i,c.Z,c.N+1,fun i=>if i=c.N then false else c.X i⟩
theorem Rel.aac {id off n m:Nat}{cs cs':List V}{C C':Array Value}{e:TypeId}(h:Rel c σ w)(hg:σ.tr.get id=some (.cells n cs false))
 (hb:w.heap[(c.ρ id).1]?=some (.cells C e (0,0)))(hs:C'.size=C.size)(hl:m=cs'.length)(Na:2≤m)(mV:∀v∈cs',wf c v∧storable v=true)(hle:(c.ρ id).2+off+m≤C.size)
 (hv:∀j v,cs'[j]?=some v→C'[(c.ρ id).2+off+j]?=some (conc c v)):
  Rel (c.at id off) ((σ.put id none).new (.cells m cs' false)) (World.setRow w (c.ρ id).1 C' e (0,0))∧dL c w (c.at id off) (World.setRow w (c.ρ id).1 C' e (0,0)):=by
 have yh:=h.live id _ hg
 have bV:(c.ρ id).1<w.heap.size:=(Array.getElem?_eq_some_iff.1 hb).1
 have hold:∀i,i<c.N→(c.at id off).ρ i=c.ρ i:=fun i hi=>by simp [Ctx.at,jm hi]
 have I:(c.at id off).ρ c.N=((c.ρ id).1,(c.ρ id).2+off):=by simp [Ctx.at]
 have U:∀i,i<c.N→(c.at id off).X i=c.X i:=fun i hi=>by simp [Ctx.at,jm hi]
 have ex:Ext c (c.at id off):=⟨by simp [Ctx.at],hold,fun _ _=>rfl,U⟩
 have hX:=h.yF hg (by intro _ _ he; cases he)
 have hN:(c.at id off).N=c.N+1:=rfl
 have key:∀i o,((σ.put id none).new (.cells m cs' false)).tr.get i=some o→(i=c.N∧o=.cells m cs' false)∨(i<c.N∧i≠id∧σ.tr.get i=some o):=by
  intro i o hi
  rw [f_] at hi
  by_cases h1:i=c.N
  ·have:(σ.put id none).next=c.N:=by simp [H.put,h.next]
   rw [this] at hi
   simp [h1] at hi
   exact .inl ⟨h1,hi.symm⟩
  ·have:(σ.put id none).next=c.N:=by simp [H.put,h.next]
   rw [this,af h1,b8] at hi
   by_cases h2:i=id
   ·simp [h2] at hi
   ·simp [h2] at hi
    exact .inr ⟨h.live i o hi,h2,hi⟩
 refine ⟨⟨by simp [H.new,H.put,h.next,Ctx.at],fun i o hi => ?_,fun i hi => ?_,fun i hi => ?_,fun i j o o' hi hj he => ?_,fun i o hi => ?_,fun i sO nu hi hx => ?_,fun i o hi hx => ?_⟩,
  ⟨ex,by simp [World.setRow],fun b _=>n_ hb hs b,fun b _ hn => ?_,fun j h1 h2 => ?_,rfl,rfl⟩⟩
 ·rw [hN]
  rcases key i o hi with ⟨h1,_⟩ | ⟨h1,_⟩ <;> omega
 ·rw [hN] at hi
  by_cases h1:i=c.N
  ·subst h1; rw [I]; simpa [World.setRow] using bV
  ·rw [hold i (by omega)]; simpa [World.setRow] using h.kQ i (by omega)
 ·rw [hN] at hi
  rw [n_ hb hs]
  by_cases h1:i=c.N
  ·subst h1; rw [I]; exact h.zz id yh
  ·rw [hold i (by omega)]; exact h.zz i (by omega)
 ·rcases key i o hi with ⟨J,_⟩ | ⟨J,a2,a3⟩ <;> rcases key j o' hj with ⟨b1,_⟩ | ⟨b1,b2,b3⟩
  ·exact .inl (by omega)
  ·subst J
   rw [I,hold j b1] at he
   exact absurd (h.wY b3 hg he.symm hX) b2
  ·subst b1
   rw [I,hold i J] at he
   exact absurd (h.wY a3 hg he hX) a2
  ·rw [hold i J,hold j b1] at he
   rw [U i J,U j b1]; exact h.inj i j _ _ a3 b3 he
 ·rcases key i o hi with ⟨rfl,rfl⟩ | ⟨J,a2,a3⟩
  ·refine ⟨hl,fun v hv=>⟨(cu ex v (mV v hv).1).2,(mV v hv).2⟩,C',e,(0,0),by rw [I,ig bV]; simp,by rw [I,hs]; exact hle,fun j v hj => ?_,rfl⟩
   rw [I,(cu ex v (mV v (bw hj)).1).1]
   exact hv j v hj
  ·have gy:(c.ρ id).1≠(c.ρ i).1:=fun he=>a2 (h.wY a3 hg he.symm hX)
   exact (h.obj i o a3).later ex J (by rw [ig bV]; simp [gy])
 ·rcases key i _ hi with ⟨_,a2⟩ | ⟨J,_,a3⟩
  ·simp at a2; omega
  ·rw [U i J] at hx
   rw [hold i J]; exact h.one i sO nu a3 hx
 ·rcases key i o hi with ⟨J,_⟩ | ⟨J,_,a3⟩
  ·rw [J] at hx; simp [Ctx.at] at hx
  ·rw [U i J] at hx; exact h.fx i o a3 hx
 ·rw [ig bV]
  have:(c.ρ id).1≠b:=fun he=>by have:=hn id yh he; rw [hX] at this; cases this
  simp [this]
 ·rw [hN] at h2
  have:j=c.N:=by omega
  subst this
  exact .inr ⟨id,yh,by rw [I],hX⟩
theorem F4 {e:TypeId}{i:TypeInfo}{z:V}(hi:P.info? e=some i)(I:zeroT P e=some z)(c:Ctx): i.zero=some (conc c z):=by
 unfold zeroT at I
 rw [hi] at I
 cases J:i.zero with
 | none=>simp [J] at I
 | some x =>
  simp only [J,cE] at I
  have U:ofValue x=some z:=by
   split at I
   ·simp at I
   ·exact I
  rw [(sX U c).1]
theorem I9 {ts:Array TypeId}{ty:TypeId}{s x v:V}{iJ:H}(h:Rel c σ w)(I:appendV P σ ts s x=some (v,iJ))(hs:wf c s)(hx:wf c x):
  g_ P (Builtin.append_ ts ty #[conc c s,conc c x]) c w v iJ:=by
 unfold appendV at I
 split at I
 ·rename_i t u J3
  have h0:ts[0]?=some t:=by rw [←jV,J3]; rfl
  have h1:ts[1]?=some u:=by rw [←jV,J3]; rfl
  generalize ht:P.underlying t=dt at I
  generalize hu:P.underlying u=du at I
  split at I
  ·simp at I
  ·rename_i e d M9
   have hd:∀k,d≠.int k:=fun k e=>M9 k e
   split at I
   ·rename_i i z hi hz
    cases hq:(Nat.ble 1 i.size&&Nat.ble i.bytes 4096&&Nat.beq z.cells.length i.size) with
    | false=>simp [hq] at I
    | true =>
     simp only [hq,ag] at I
     simp only [aZ,aQ,beq_iff] at hq
     obtain ⟨⟨q1,q2⟩,q3⟩:=hq
     have yI:=F4 hi hz c
     have PW:∀n,(Builtin.zeroCells (conc c z).cells n).size=n*i.size:=fun n=>by
      rw [Eg,fJ]; simp [q3]
     split at I
     ·simp at I
     ·rename_i new n Eh
      obtain ⟨l1,l2,l3,l4⟩:=J4 (P:=P) h Eh hx
      obtain ⟨_,Vm,_,_⟩:=J4 (P:=P) h.drew Eh hx
      cases hn:Nat.beq n 0 with
      | true =>
       have sP:=beq_iff.1 hn
       subst sP
       have GL:new=[]:=List.length_eq_zero_iff.1 (by simpa using l3)
       subst GL
       simp only [hn,ag] at I
       split at I
       ·simp only [au,aP] at I
        obtain ⟨rfl,rfl⟩:=I
        refine g_.same h ⟨?_,hs⟩
        have:=append_room (P:=P) (w:=w) (ty:=ty) h0 h1 ht hu hd hi none 0 0 0 (conc c x) _ l1 l2 (aI _)
        simpa [conc] using this
       ·rename_i id off len cap
        simp only [au,aP] at I
        obtain ⟨rfl,rfl⟩:=I
        refine g_.same h ⟨?_,hs⟩
        have hle:∃a m,conc c (.sl id off len cap)=.slice (some a) len m∧len≤m:=by
         cases cap with
         | exact m =>
          have U:id<c.N∧len≤m:=by simpa [wf] using hs
          exact ⟨_,m,by simp only [conc]; rfl,U.2⟩
         | rest Bn alt =>
          have U:id<c.N∧1≤Bn∧len≤c.room id off Bn:=by simpa [wf] using hs
          exact ⟨_,_,by simp only [conc]; rfl,U.2.2⟩
        obtain ⟨a,m,e1,e2⟩:=hle
        rw [e1]
        have:=append_room (P:=P) (w:=w) (ty:=ty) h0 h1 ht hu hd hi (some a) len m 0 (conc c x) _ l1 l2 e2
        rw [this]
        simp [storeCells]
       ·simp at I
      | false =>
       have sP:n≠0:=fun e=>by rw [g9 e] at hn; cases hn
       simp only [hn,ay] at I
       split at I
       ·-- onto nil
        cases hq:mU n i.bytes with
        | false=>simp [hq] at I
        | true =>
         simp only [hq,ag,au] at I
         obtain ⟨cap,yj,sQ⟩:=vC (P:=P) (w:=w) (ty:=ty) h0 h1 ht hu hd hi yI none 0 0 n (conc c x) #[] _ l1 Vm (by simp [Builtin.firstCells]) (by omega) (by rw [dV]; exact hq)
         obtain ⟨c',g1,g2,g3,g4⟩:=yR (e:=e) (zs:=Builtin.zeroCells (conc c z).cells (cap-(0+n))) (old:=[]) (new:=new) (need:=n) (cap:=cap) h q1 (by simp) l4 (by simpa using l3) (by omega) (by rw [PW]; congr 2; omega)
         have hv:v=.sl σ.next 0 n (.rest i.size 0):=by rw [← (tP I).1]
         have I_:iJ=(n4 σ i.size [] new n).2:=by rw [← (tP I).2]; rfl
         subst hv; subst I_
         refine ⟨_,c',?_,g2,g3,g4⟩
         rw [g1]
         simp only [conc]
         rw [sQ]
         simp
       ·-- a slice whose capacity is known
        rename_i id off len cc
        have U:id<c.N∧len≤cc:=by simpa [wf] using hs
        cases hq:Nat.ble (len+n) cc with
        | true =>
         have hle:=aQ.1 hq
         simp only [hq,ag] at I
         cases hw:wrN σ id (off+len*i.size) new with
         | none=>simp [hw] at I
         | some abG =>
          simp only [hw,au,aP] at I
          obtain ⟨rfl,rfl⟩:=I
          obtain ⟨w',s1,s2,s3⟩:=yH (P:=P) h hw l4
          refine ⟨w',c,?_,by simpa [wf] using ⟨U.1,hle⟩,s2,s3⟩
          have:=append_room (P:=P) (w:=w) (ty:=ty) h0 h1 ht hu hd hi (some (fL c id off)) len cc n (conc c x) _ l1 l2 hle
          have e1:conc c (.sl id off len (.exact cc))=.slice (some (fL c id off)) len cc:=by simp only [conc,fL]
          rw [e1,this]
          simp only [tV,s1,Result.andThen_ok]
          simp only [conc,fL]
        | false =>
         have bV:cc<len+n:=by
          rcases rC cc (len+n) with h' | h'
          ·exact h'
          ·rw [aQ.2 h'] at hq; cases hq
         simp only [hq,ay] at I
         cases iG:mU (len+n) i.bytes with
         | false=>simp [iG] at I
         | true =>
          simp only [iG,ag] at I
          cases lY:rdN σ id off (len*i.size) with
          | none=>simp [lY] at I
          | some old =>
           simp only [lY,au] at I
           obtain ⟨r1,r2,_⟩:=ug h lY
           have r4:=Ec (P:=P) h.drew lY
           obtain ⟨cap,yj,sQ⟩:=vC (P:=P) (w:=w) (ty:=ty) h0 h1 ht hu hd hi yI (some (fL c id off)) len cc n (conc c x) _ _ l1 Vm (by simp only [Builtin.firstCells]; exact r4) bV iG
           obtain ⟨c',g1,g2,g3,g4⟩:=yR (e:=e) (zs:=Builtin.zeroCells (conc c z).cells (cap-(len+n))) (old:=old) (new:=new) (need:=len+n) (cap:=cap) h q1 r2 l4 (by rw [r1,l3,iE]) yj (PW _)
           have hv:v=.sl σ.next 0 (len+n) (.rest i.size 0):=by rw [← (tP I).1]
           have I_:iJ=(n4 σ i.size old new (len+n)).2:=by rw [← (tP I).2]; rfl
           subst hv; subst I_
           refine ⟨_,c',?_,g2,g3,g4⟩
           have e1:conc c (.sl id off len (.exact cc))=.slice (some (fL c id off)) len cc:=by simp only [conc,fL]
           rw [g1,e1,sQ]
       ·-- a slice whose capacity is not known
        rename_i id off len Bn alt
        have U:id<c.N∧1≤Bn∧len≤c.room id off Bn:=by simpa [wf] using hs
        cases uo:Nat.beq Bn i.size with
        | false=>simp [uo] at I
        | true =>
         have he:=beq_iff.1 uo
         subst he
         simp only [uo,ag] at I
         have GH:=E6 (id:=id) (off:=off) (k:=i.size) h
         cases hq:Nat.ble (len+n) (kP σ id off i.size) with
         | true =>
          have hle:=aQ.1 hq
          simp only [hq,ag] at I
          have J:c.room id off i.size≠0:=by omega
          cases hw:wrN σ id (off+len*i.size) new with
          | none=>simp [hw] at I
          | some abG =>
           simp only [hw,au,aP] at I
           obtain ⟨rfl,rfl⟩:=I
           obtain ⟨w',s1,s2,s3⟩:=yH (P:=P) h hw l4
           refine ⟨w',c,?_,by simp only [wf]; exact ⟨U.1,U.2.1,by omega⟩,s2,s3⟩
           have:=append_room (P:=P) (w:=w) (ty:=ty) h0 h1 ht hu hd hi (some (fL c id off)) len (c.room id off i.size) n (conc c x) _ l1 l2 (by omega)
           have e1:conc c (.sl id off len (.rest i.size alt))=.slice (some (fL c id off)) len (c.room id off i.size):=by simp only [conc,fL,J,bN]
           rw [e1,this]
           simp only [tV,s1,Result.andThen_ok]
           simp only [conc,fL,J,bN]
         | false =>
          simp only [hq,ay] at I
          cases iG:(mU (len+n) i.bytes&&Nat.ble 2 ((len+n)*i.size)) with
          | false=>simp [iG] at I
          | true =>
           have hb:=(aZ _ _ ▸ iG).1
           have Na:=aQ.1 (aZ _ _ ▸ iG).2
           simp only [iG,ag] at I
           split at I
           ·rename_i old acX acQ lY hg
            simp only [au] at I
            obtain ⟨r1,r2,r3⟩:=ug h lY
            have hv:v=.sl σ.next 0 (len+n) (.rest i.size 0):=by rw [← (tP I).1]; rfl
            have I_:iJ=(n4 (σ.put id none) i.size old new (len+n)).2:=by rw [← (tP I).2]; rfl
            subst hv; subst I_
            by_cases J:len+n≤c.room id off i.size
            ·-- there is room behind it
             obtain ⟨_,acR,C,el,fz,R7,ab_,acS,wu⟩:=h.obj id _ hg
             simp only [FzOk] at wu
             subst wu
             have wz:c.room id off i.size≠0:=by omega
             have hZ:=h.zz id U.1
             have vb:rowSize w (c.ρ id).1=C.size:=by unfold rowSize; rw [R7]
             have jq:(c.ρ id).2+off+(len+n)*i.size≤C.size:=by
              unfold Ctx.room at J
              rw [hZ,vb] at J
              have h1:(len+n)*i.size≤(C.size-((c.ρ id).2+off))/i.size*i.size:=qY _ J
              have h2:=Nat.div_mul_le_self (C.size-((c.ρ id).2+off)) i.size
              have h3:0<(len+n)*i.size:=Nat.mul_pos (by omega) (by omega)
              omega
             obtain ⟨C',s1,s2,s3⟩:=wq (P:=P) (new.map (conc c)) 0 w (c.ρ id).1 ((c.ρ id).2+(off+len*i.size)) C el (0,0) R7 (by intro j _; simp)
              (by simp only [eu,l3]; rw [iE] at jq; omega) (by simp only [nY]; rintro _ ⟨y,hy,rfl⟩; exact Bo (l4 y hy).2)
             have hlen:(old++new).length=(len+n)*i.size:=by simp [r1,l3,iE]
             have ha:=h.aac (off:=off) (m:=(len+n)*i.size) (cs':=old++new) (C':=C') hg R7 s2 hlen.symm Na (by
               intro y hy
               rcases List.mem_append.1 hy with hy | hy
               ·exact r2 y hy
               ·exact l4 y hy) jq (by
               intro j y hj
               rw [s3]
               by_cases hj1:j<len*i.size
               ·rw [kE (by omega)] at hj
                rw [af (by omega)]
                have:=r3 j (conc c y) (by simp [hj])
                rw [tV] at this
                simpa [World.cell?,fL,R7,gK] using this
               ·rw [nT (by omega),r1] at hj
                have Vb:j-len*i.size<new.length:=(List.getElem?_eq_some_iff.1 hj).1
                rw [aj (by simp only [eu]; omega)]
                rw [pH,show (c.ρ id).2+off+j-((c.ρ id).2+(off+len*i.size)+0)=j-len*i.size from by omega,hj]
                rfl)
             have Zi:(c.at id off).room σ.next 0 i.size=c.room id off i.size:=by
              simp [Ctx.room,Ctx.at,h.next]
             refine ⟨_,_,?_,?_,ha.1,ha.2⟩
             ·have:=append_room (P:=P) (w:=w) (ty:=ty) h0 h1 ht hu hd hi (some (fL c id off)) len (c.room id off i.size) n (conc c x) _ l1 l2 J
              have e1:conc c (.sl id off len (.rest i.size alt))=.slice (some (fL c id off)) len (c.room id off i.size):=by simp only [conc,fL,wz,bN]
              rw [e1,this]
              simp only [tV]
              simp only [fL,s1,Result.andThen_ok]
              simp only [conc,Zi,wz,bN]
              simp [Ctx.at,h.next]
             ·simp only [wf,Zi]
              exact ⟨by simp [Ctx.at,h.next],q1,J⟩
            ·-- a new block
             have bV:c.room id off i.size<len+n:=by omega
             have lK:=AT (P:=P) h.drew hs lY (fun e=>by rw [e]; simp)
             obtain ⟨a,m,e1,e2,_,_⟩:=lK
             have hm:m=c.room id off i.size:=by
              simp only [conc,Value.slice.injEq] at e1
              exact e1.2.2.symm
             subst hm
             obtain ⟨cap,yj,sQ⟩:=vC (P:=P) (w:=w) (ty:=ty) h0 h1 ht hu hd hi yI (some a) len (c.room id off i.size) n (conc c x) _ _ l1 Vm (by simp only [Builtin.firstCells]; exact e2) bV hb
             obtain ⟨c',g1,g2,g3,g4⟩:=yR (e:=e) (zs:=Builtin.zeroCells (conc c z).cells (cap-(len+n))) (old:=old) (new:=new) (need:=len+n) (cap:=cap) (h.kill id) q1 r2 l4 (by rw [r1,l3,iE]) yj (PW _)
             refine ⟨_,c',?_,g2,g3,g4⟩
             rw [e1,sQ]
             exact iZ (fun q=>Result.ok q _) g1.symm
           ·simp at I
       ·simp at I
   ·simp at I
  ·simp at I
 ·simp at I
theorem Nb {ts:Array TypeId}{t ty:TypeId}{d s v:V}{iJ:H}(h:Rel c σ w)(U:ts[0]?=some t)(I:copyV P σ t d s=some (v,iJ))(hd:wf c d)(hs:wf c s):
  g_ P (Builtin.copy_ ts ty #[conc c d,conc c s]) c w v iJ:=by
 unfold copyV at I
 generalize ht:P.underlying t=dt at I
 split at I
 ·rename_i e
  cases hk:bJ P e with
  | none=>simp [hk] at I
  | some k =>
   simp only [hk] at I
   split at I
   ·simp only [au,aP] at I
    obtain ⟨rfl,rfl⟩:=I
    refine g_.same h ⟨?_,by simp [wf]⟩
    simp [Builtin.copy_,U,run_underlying ht,conc,Builtin.lenOf,c_ hk,Builtin.firstCells,goInt]
   ·rename_i id off len cap
    simp only [au,aP] at I
    obtain ⟨rfl,rfl⟩:=I
    obtain ⟨a,m,e1⟩:=rF c id off len cap
    refine g_.same h ⟨?_,by simp [wf]⟩
    rw [e1]
    simp [Builtin.copy_,U,run_underlying ht,conc,Builtin.lenOf,c_ hk,Builtin.firstCells,goInt,loadCells,loadCellsFrom]
   ·rename_i id off len cap
    simp only [au,aP] at I
    obtain ⟨rfl,rfl⟩:=I
    obtain ⟨a,m,e1⟩:=rF c id off len cap
    refine g_.same h ⟨?_,by simp [wf]⟩
    rw [e1]
    simp [Builtin.copy_,U,run_underlying ht,conc,Builtin.lenOf,c_ hk,Builtin.firstCells,goInt,storeCells]
   ·rename_i id off len cap a0
    simp only [au,aP] at I
    obtain ⟨rfl,rfl⟩:=I
    obtain ⟨a,m,e1⟩:=rF c id off len cap
    refine g_.same h ⟨?_,by simp [wf]⟩
    rw [e1]
    simp [Builtin.copy_,U,run_underlying ht,conc,Builtin.lenOf,c_ hk,Builtin.firstCells,goInt,loadCells,loadCellsFrom,storeCells]
   ·rename_i id off len cap Bu off' aad Vn
    cases lY:rdN σ Bu off' (Nat.min aad len*k) with
    | none=>simp [lY] at I
    | some cs =>
     simp only [lY] at I
     cases hw:wrN σ id off cs with
     | none=>simp [hw] at I
     | some abG =>
      simp only [hw,au,aP] at I
      obtain ⟨rfl,rfl⟩:=I
      obtain ⟨r1,r2,_⟩:=ug h lY
      obtain ⟨a,m,e1,e2,_,_⟩:=AT (P:=P) h hs lY (fun e=>by rw [e]; simp)
      obtain ⟨w',s1,s2,s3⟩:=yH (P:=P) h hw r2
      refine ⟨w',c,?_,by simp [wf],s2,s3⟩
      have aae:∃b n,conc c (.sl id off len cap)=.slice (some b) len n∧(storeCells b (cs.map (conc c))).run P w=.ok () w':=by
       cases cap with
       | exact n=>exact ⟨_,n,by simp only [conc]; rfl,s1⟩
       | rest J alt =>
        by_cases h3:c.room id off J=0
        ·have hlen:len=0:=by
          have:id<c.N∧1≤J∧len≤c.room id off J:=by simpa [wf] using hd
          omega
         subst hlen
         have qS:cs=[]:=List.length_eq_zero_iff.1 (by simpa using r1)
         subst qS
         refine ⟨⟨(c.ρ id).1,(c.ρ id).2+(if c.room id off J=0 then alt else off),none⟩,c.room id off J,by simp only [conc],?_⟩
         simpa [storeCells] using s1
        ·exact ⟨fL c id off,c.room id off J,by simp only [conc,h3,bN,fL],s1⟩
      obtain ⟨b,n,e3,e4⟩:=aae
      rw [e1,e3]
      simp only [Builtin.copy_,U,m6,nU,kF,Sem.run_bind,run_underlying ht,Result.andThen_ok,Builtin.lenOf,Sem.run_pure,c_ hk,
       Builtin.firstCells,e2,e4]
      simp [conc,goInt]
   ·simp at I
 ·simp at I
theorem Lk {ts:Array TypeId}{t ty:TypeId}{x:V}{iJ:H}(h:Rel c σ w)(J:ts[0]?=some t)(I:clearV P σ t x=some iJ)(hx:wf c x):
  ∃w' c',(Builtin.clear_ ts ty #[conc c x]).run P w=.ok (.tuple #[]) w'∧Rel c' iJ w'∧dL c w c' w':=by
 unfold clearV at I
 generalize ht:P.underlying t=dt at I
 split at I
 ·simp only [au] at I
  subst I
  exact ⟨w,c,by simp [Builtin.clear_,J,run_underlying ht,conc],h,dL.refl c w⟩
 ·rename_i id
  split at I
  ·rename_i es clock hg
   obtain ⟨hw,hb⟩:=h.obj id _ hg
   have sq:=ko (P:=P) hb (by simp)
   simp only [au] at I
   subst I
   have hm:=h.uj (es':=[]) (k':=clock) hg (by simp)
   refine ⟨_,_,?_,hm.1,hm.2⟩
   simp only [Builtin.clear_,J,m6,nU,Sem.run_bind,run_underlying ht,Result.andThen_ok,conc,sq]
   rw [lH hb (by simp)]
   simp
  ·simp at I
 ·simp only [au] at I
  subst I
  exact ⟨w,c,by simp [Builtin.clear_,J,run_underlying ht,conc],h,dL.refl c w⟩
 ·rename_i e id off len cap
  cases hz:zeroT P e with
  | none=>simp [hz] at I
  | some z =>
   simp only [hz] at I
   cases hq:(Nat.ble 1 z.cells.length&&Nat.ble 1 len) with
   | false=>simp [hq] at I
   | true =>
    simp only [hq,ag] at I
    simp only [aZ,aQ] at hq
    obtain ⟨z1,z2⟩:=ga hz c w
    obtain ⟨w',s1,s2,s3⟩:=yH (P:=P) h I (fun v hv=>⟨kR z2 v (lT hv),my hz v (lT hv)⟩)
    have Br:=qo c z.cells len hq.1
    have key:∃m,conc c (.sl id off len cap)=.slice (some (fL c id off)) len m:=by
     cases cap with
     | exact m=>exact ⟨m,by simp only [conc,fL]⟩
     | rest U alt =>
      have ji:id<c.N∧1≤U∧len≤c.room id off U:=by simpa [wf] using hx
      have h3:c.room id off U≠0:=by omega
      exact ⟨c.room id off U,by simp only [conc,fL,h3,bN]⟩
    obtain ⟨m,e1⟩:=key
    refine ⟨w',c,?_,s2,s3⟩
    rw [e1]
    obtain ⟨l,rfl⟩:∃l,len=l+1:=⟨len-1,by omega⟩
    have GK:Builtin.zeroCells (conc c z).cells (l+1)=((repeatL z.cells (l+1)).map (conc c)).toArray:=by
     rw [fJ,←Br]
     simp [Builtin.zeroCells]
    simp only [Builtin.clear_,J,m6,nU,Sem.run_bind,run_underlying ht,Result.andThen_ok,z1,GK,s1]
    simp
 ·simp at I
end
end Go.Proofs.YtconhghphklfjaaGreat.Am
