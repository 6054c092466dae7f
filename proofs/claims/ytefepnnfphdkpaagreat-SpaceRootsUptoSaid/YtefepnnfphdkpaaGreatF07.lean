/- SpaceRoots: a part of its proof; conditions: its statement's. -/
import Derived.Test.YtefepnnfphdkpaaGreatF06
namespace Go.Proofs.YtefepnnfphdkpaaGreat.Am
open Go
section
variable {P:Program} {c:Ctx} {σ:H} {w:World}
theorem Kn {k n:Nat}{x:V}{new:List V}(h:Rel c σ w)(I:srcV σ k x=some (new,n))(hx:wf c x):
  (Builtin.lenOf (conc c x)).run P w=.ok n w∧(Builtin.firstCells k n (conc c x)).run P w=.ok ((new.map (conc c)).toArray) w ∧
   new.length=n*k∧∀v∈new,wf c v∧storable v=true:=by
 unfold srcV at I
 split at I
 ·simp only [aq,aF] at I
  obtain ⟨rfl,rfl⟩:=I
  exact ⟨by simp [Builtin.lenOf,conc],by simp [Builtin.firstCells,conc],by simp,by simp⟩
 ·simp only [aq,aF] at I
  obtain ⟨rfl,rfl⟩:=I
  exact ⟨by simp [Builtin.lenOf,conc],by simp [Builtin.firstCells,conc,loadCells,loadCellsFrom],by simp,by simp⟩
 ·rename_i id off len cap
  cases J:rdN σ id off (len*k) with
  | none=>simp [J] at I
  | some cs =>
   simp [J] at I
   obtain ⟨rfl,rfl⟩:=I
   obtain ⟨a,m,h1,h2,_,_⟩:=AI (P:=P) h hx J (fun e=>by rw [e]; simp)
   obtain ⟨h3,h4,_⟩:=tM h J
   rw [h1]
   exact ⟨by simp [Builtin.lenOf],by simp [Builtin.firstCells,h2],h3,h4⟩
 ·rename_i l
  cases J:Nat.beq k 1 with
  | false=>simp [J] at I
  | true =>
   have:=beq_iff.1 J
   subst this
   simp only [J,ag,aq,aF] at I
   obtain ⟨rfl,rfl⟩:=I
   have hl:∀y∈l,y<256:=by simpa [wf] using hx
   have eZ:(⟨(l.map UInt8.ofNat).toArray⟩:ByteArray).size=l.length:=by simp [ByteArray.size]
   refine ⟨by simp [Builtin.lenOf,conc,eZ],?_,by simp [ofBytes],fun v hv => ?_⟩
   ·simp only [Builtin.firstCells,conc,Sem.run_pure]
    have:((⟨(l.map UInt8.ofNat).toArray⟩:ByteArray).extract 0 l.length)=⟨(l.map UInt8.ofNat).toArray⟩:=by
     apply s_
     simp [dO]
    rw [this,yG c hl]
   ·obtain ⟨n,rfl⟩:=vr hv
    exact ⟨by simp [wf],rfl⟩
 ·simp at I
theorem append_room {ts:Array TypeId}{t u ty e:TypeId}{i:TypeInfo}{du:TypeDesc}(h0:ts[0]?=some t)(h1:ts[1]?=some u)(ht:P.underlying t=some (.slice e))(hu:P.underlying u=some du)
 (Nx:∀k,du≠.int k)(hi:P.info? e=some i)(base:Option Addr)(I J n:Nat)(x:Value)(new:Array Value)
 (hl:(Builtin.lenOf x).run P w=.ok n w)(hf:(Builtin.firstCells i.size n x).run P w=.ok new w)(hle:I+n≤J):
  (Builtin.append_ ts ty #[.slice base I J,x]).run P w=match base with
   | none=>.ok (.slice none (I+n) J) w
   | some a=>((storeCells (a.add (I*i.size)) new.toList).run P w).andThen fun _ w'=>.ok (.slice (some a) (I+n) J) w':=by
 have eZ:(sizeOf e).run P w=.ok i.size w:=by simp [sizeOf,typeInfo,hi]
 simp only [Builtin.append_,h0,h1,lN,mT,kK,Sem.run_bind,run_underlying ht,run_underlying hu,Result.andThen_ok,eZ]
 cases du
 case int k=>exact absurd rfl (Nx k)
 all_goals simp only [Sem.run_pure,Result.andThen_ok,dY,bN,hl,hle,bO,Sem.run_bind,hf,Ei]
 all_goals cases base <;> simp
theorem w9 {n b:Nat}: kO n b=true↔n≤140737488355328∧n*b≤140737488355328:=by
 unfold kO
 rw [aO,aJ,aJ]
theorem vt {ts:Array TypeId}{t u ty e:TypeId}{i:TypeInfo}{du:TypeDesc}{z:Value}(h0:ts[0]?=some t)(h1:ts[1]?=some u)(ht:P.underlying t=some (.slice e))
 (hu:P.underlying u=some du)(Nx:∀k,du≠.int k)(hi:P.info? e=some i)(sr:i.zero=some z)(base:Option Addr)(I J n:Nat)(x:Value)(old new:Array Value)
 (hl:(Builtin.lenOf x).run P w=.ok n w)(hf:(Builtin.firstCells i.size n x).run P w.drew=.ok new w.drew)
 (ho:(Builtin.firstCells i.size I (.slice base I J)).run P w.drew=.ok old w.drew)(hg:J<I+n)(hb:kO (I+n) i.bytes=true):
  ∃cap,I+n≤cap∧(Builtin.append_ ts ty #[.slice base I J,x]).run P w =
   .ok (.slice (some ⟨w.heap.size,0,none⟩) (I+n) cap) (w.drew.alloc (.cells (old++new++Builtin.zeroCells z.cells (cap-(I+n))) e)):=by
 have eZ:∀w,(sizeOf e).run P w=.ok i.size w:=fun w=>by simp [sizeOf,typeInfo,hi]
 have Nw:∀w,(typeInfo e).run P w=.ok i w:=fun w=>by simp [typeInfo,hi]
 have Ny:∀w,(zeroValue e).run P w=.ok z w:=fun w=>by simp [zeroValue,typeInfo,hi,sr]
 have hn:¬ (I+n≤J):=by omega
 obtain ⟨pR,G5⟩:=w9.1 hb
 have h63:¬ (((I+n:Nat):Int)>IntKind.i64.max):=by
  rw [IntKind.max_i64]; omega
 have h48:¬ (Builtin.nextslicecap (I+n) J*i.bytes>2^48):=by
  have:=growslice_fits (need:=I+n) (old:=J) (bytes:=i.bytes) hg G5
  omega
 refine ⟨(Question.appendCap (I+n) J e).cut (w.tape w.drawn (.appendCap (I+n) J e)),by simp [Question.cut],?_⟩
 simp only [Builtin.append_,h0,h1,lN,mT,kK,Sem.run_bind,run_underlying ht,run_underlying hu,Result.andThen_ok,eZ]
 cases du
 case int k=>exact absurd rfl (Nx k)
 all_goals simp only [Sem.run_pure,Result.andThen_ok,dY,bN,hl,hn,Nw,Sem.run_bind,h63,false_and,h48,Ei,bO,run_choose,Question.forced,run_askRoom]
 all_goals simp only [World.drew_eq,ho,hf,Ny,Result.andThen_ok,Go.newRow,Sem.run_bind,run_newObj,Sem.run_pure,World.alloc_eq]
 all_goals rfl
theorem Eo (z:Array Value)(n:Nat): (Builtin.zeroCells z n).size=n*z.size:=by simp [Builtin.zeroCells]
theorem yH {e:TypeId}{k:Nat}{old new:List V}{need cap:Nat}{zs:Array Value}(h:Rel c σ w)(hk:1≤k)(ho:∀v∈old,wf c v∧storable v=true)(hn:∀v∈new,wf c v∧storable v=true)
 (hlen:old.length+new.length=need*k)(LG:need≤cap)(hzs:zs.size=(cap-need)*k):
  ∃c',conc c' (.sl σ.next 0 need (.rest k 0))=.slice (some ⟨w.heap.size,0,none⟩) need cap∧wf c' (.sl σ.next 0 need (.rest k 0)) ∧
   Rel c' (nU σ k old new need).2 (w.drew.alloc (.cells ((old.map (conc c)).toArray++(new.map (conc c)).toArray++zs) e)) ∧
   cV c w c' (w.drew.alloc (.cells ((old.map (conc c)).toArray++(new.map (conc c)).toArray++zs) e)):=by
 have lG:∀v∈old++new,wf c v∧storable v=true:=fun v hv=>by
  rcases List.mem_append.1 hv with hv | hv
  ·exact ho v hv
  ·exact hn v hv
 obtain ⟨g1,g2⟩:=h.drew.newRow lG e zs.toList
 have J:(((old++new).map (conc c))++zs.toList).toArray=(old.map (conc c)).toArray++(new.map (conc c)).toArray++zs:=by
  apply ji
  simp
 have eZ:(old++new).length+zs.toList.length=cap*k:=by
  simp only [bx,Aw,hlen,hzs]
  rw [←iw]
  congr 1
  omega
 have jo:(old++new).length=need*k:=by simpa using hlen
 rw [J,eZ,jo] at g1
 rw [J,eZ] at g2
 refine ⟨_,?_,?_,g1,(cV.drew c w).trans g2⟩
 ·have w6:(c.grow w.heap.size 0 (cap*k)).room σ.next 0 k=cap:=by
   simp only [Ctx.room,h.next,Ctx.grow,bO,kf,gH]
   exact D4 cap (by omega)
  have I:(c.grow w.drew.heap.size 0 (cap*k)).room σ.next 0 k=cap:=w6
  simp only [conc,I]
  simp [h.next,Ctx.grow]
 ·have I:(c.grow w.drew.heap.size 0 (cap*k)).room σ.next 0 k=cap:=by
   simp only [Ctx.room,h.next,Ctx.grow,World.size_drew,bO,kf,gH]
   exact D4 cap (by omega)
  simp only [wf,I]
  exact ⟨by rw [h.next,kS]; omega,hk,LG⟩
def Ctx.at (c:Ctx)(id off:Nat): Ctx:=⟨fun i=>if i=c.N then ((c.ρ id).1,(c.ρ id).2+off) else c.ρ i,c.Z,c.N+1,fun i=>if i=c.N then false else c.X i⟩
theorem Rel.aac {id off n m:Nat}{cs cs':List V}{C C':Array Value}{e:TypeId}(h:Rel c σ w)(hg:σ.tr.get id=some (.cells n cs false))
 (hb:w.heap[(c.ρ id).1]?=some (.cells C e (0,0)))(hs:C'.size=C.size)(hl:m=cs'.length)(rP:2≤m)(jP:∀v∈cs',wf c v∧storable v=true)(hle:(c.ρ id).2+off+m≤C.size)
 (hv:∀j v,cs'[j]?=some v→C'[(c.ρ id).2+off+j]?=some (conc c v)):
  Rel (c.at id off) ((σ.put id none).new (.cells m cs' false)) (World.setRow w (c.ρ id).1 C' e (0,0))∧cV c w (c.at id off) (World.setRow w (c.ρ id).1 C' e (0,0)):=by
 have yl:=h.live id _ hg
 have bF:(c.ρ id).1<w.heap.size:=(Array.getElem?_eq_some_iff.1 hb).1
 have hold:∀i,i<c.N→(c.at id off).ρ i=c.ρ i:=fun i hi=>by simp [Ctx.at,jg hi]
 have I:(c.at id off).ρ c.N=((c.ρ id).1,(c.ρ id).2+off):=by simp [Ctx.at]
 have Cy:∀i,i<c.N→(c.at id off).X i=c.X i:=fun i hi=>by simp [Ctx.at,jg hi]
 have ex:Ext c (c.at id off):=⟨by simp [Ctx.at],hold,fun _ _=>rfl,Cy⟩
 have hX:=h.yz hg (by intro _ _ he; cases he)
 have hN:(c.at id off).N=c.N+1:=rfl
 have key:∀i o,((σ.put id none).new (.cells m cs' false)).tr.get i=some o→(i=c.N∧o=.cells m cs' false)∨(i<c.N∧i≠id∧σ.tr.get i=some o):=by
  intro i o hi
  rw [iz] at hi
  by_cases h1:i=c.N
  ·have:(σ.put id none).next=c.N:=by simp [H.put,h.next]
   rw [this] at hi
   simp [h1] at hi
   exact .inl ⟨h1,hi.symm⟩
  ·have:(σ.put id none).next=c.N:=by simp [H.put,h.next]
   rw [this,ah h1,cD] at hi
   by_cases h2:i=id
   ·simp [h2] at hi
   ·simp [h2] at hi
    exact .inr ⟨h.live i o hi,h2,hi⟩
 refine ⟨⟨by simp [H.new,H.put,h.next,Ctx.at],fun i o hi => ?_,fun i hi => ?_,fun i hi => ?_,fun i j o o' hi hj he => ?_,fun i o hi => ?_,fun i o9 nt hi hx => ?_,fun i o hi hx => ?_⟩,
  ⟨ex,by simp [World.setRow],fun b _=>nW hb hs b,fun b _ hn => ?_,fun j h1 h2 => ?_,rfl,rfl⟩⟩
 ·rw [hN]
  rcases key i o hi with ⟨h1,_⟩ | ⟨h1,_⟩ <;> omega
 ·rw [hN] at hi
  by_cases h1:i=c.N
  ·subst h1; rw [I]; simpa [World.setRow] using bF
  ·rw [hold i (by omega)]; simpa [World.setRow] using h.lF i (by omega)
 ·rw [hN] at hi
  rw [nW hb hs]
  by_cases h1:i=c.N
  ·subst h1; rw [I]; exact h.zz id yl
  ·rw [hold i (by omega)]; exact h.zz i (by omega)
 ·rcases key i o hi with ⟨J,_⟩ | ⟨J,a2,a3⟩ <;> rcases key j o' hj with ⟨b1,_⟩ | ⟨b1,b2,b3⟩
  ·exact .inl (by omega)
  ·subst J
   rw [I,hold j b1] at he
   exact absurd (h.wV b3 hg he.symm hX) b2
  ·subst b1
   rw [I,hold i J] at he
   exact absurd (h.wV a3 hg he hX) a2
  ·rw [hold i J,hold j b1] at he
   rw [Cy i J,Cy j b1]; exact h.inj i j _ _ a3 b3 he
 ·rcases key i o hi with ⟨rfl,rfl⟩ | ⟨J,a2,a3⟩
  ·refine ⟨hl,fun v hv=>⟨(cg ex v (jP v hv).1).2,(jP v hv).2⟩,C',e,(0,0),by rw [I,h_ bF]; simp,by rw [I,hs]; exact hle,fun j v hj => ?_,rfl⟩
   rw [I,(cg ex v (jP v (bC hj)).1).1]
   exact hv j v hj
  ·have dS:(c.ρ id).1≠(c.ρ i).1:=fun he=>a2 (h.wV a3 hg he.symm hX)
   exact (h.obj i o a3).later ex J (by rw [h_ bF]; simp [dS])
 ·rcases key i _ hi with ⟨_,a2⟩ | ⟨J,_,a3⟩
  ·simp at a2; omega
  ·rw [Cy i J] at hx
   rw [hold i J]; exact h.one i o9 nt a3 hx
 ·rcases key i o hi with ⟨J,_⟩ | ⟨J,_,a3⟩
  ·rw [J] at hx; simp [Ctx.at] at hx
  ·rw [Cy i J] at hx; exact h.fx i o a3 hx
 ·rw [h_ bF]
  have:(c.ρ id).1≠b:=fun he=>by have:=hn id yl he; rw [hX] at this; cases this
  simp [this]
 ·rw [hN] at h2
  have:j=c.N:=by omega
  subst this
  exact .inr ⟨id,yl,by rw [I],hX⟩
theorem Gm {e:TypeId}{i:TypeInfo}{z:V}(hi:P.info? e=some i)(I:zeroT P e=some z)(c:Ctx): i.zero=some (conc c z):=by
 unfold zeroT at I
 rw [hi] at I
 cases J:i.zero with
 | none=>simp [J] at I
 | some x =>
  simp only [J,cI] at I
  have h0:ofValue x=some z:=by
   split at I
   ·simp at I
   ·exact I
  rw [(sE h0 c).1]
theorem Jq {ts:Array TypeId}{ty:TypeId}{s x v:V}{eS:H}(h:Rel c σ w)(I:appendV P σ ts s x=some (v,eS))(hs:wf c s)(hx:wf c x):
  g_ P (Builtin.append_ ts ty #[conc c s,conc c x]) c w v eS:=by
 unfold appendV at I
 split at I
 ·rename_i t u nA
  have h0:ts[0]?=some t:=by rw [←jf,nA]; rfl
  have h1:ts[1]?=some u:=by rw [←jf,nA]; rfl
  generalize ht:P.underlying t=dt at I
  generalize hu:P.underlying u=du at I
  split at I
  ·simp at I
  ·rename_i e d Nx
   have hd:∀k,d≠.int k:=fun k e=>Nx k e
   split at I
   ·rename_i i z hi hz
    cases hq:(Nat.ble 1 i.size&&Nat.ble i.bytes 4096&&Nat.beq z.cells.length i.size) with
    | false=>simp [hq] at I
    | true =>
     simp only [hq,ag] at I
     simp only [aO,aJ,beq_iff] at hq
     obtain ⟨⟨q1,q2⟩,q3⟩:=hq
     have sr:=Gm hi hz c
     have Qu:∀n,(Builtin.zeroCells (conc c z).cells n).size=n*i.size:=fun n=>by
      rw [Eo,fT]; simp [q3]
     split at I
     ·simp at I
     ·rename_i new n Ep
      obtain ⟨l1,l2,l3,l4⟩:=Kn (P:=P) h Ep hx
      obtain ⟨_,VS,_,_⟩:=Kn (P:=P) h.drew Ep hx
      cases hn:Nat.beq n 0 with
      | true =>
       have rO:=beq_iff.1 hn
       subst rO
       have w_:new=[]:=List.length_eq_zero_iff.1 (by simpa using l3)
       subst w_
       simp only [hn,ag] at I
       split at I
       ·simp only [aq,aF] at I
        obtain ⟨rfl,rfl⟩:=I
        refine g_.same h ⟨?_,hs⟩
        have:=append_room (P:=P) (w:=w) (ty:=ty) h0 h1 ht hu hd hi none 0 0 0 (conc c x) _ l1 l2 (aD _)
        simpa [conc] using this
       ·rename_i id off len cap
        simp only [aq,aF] at I
        obtain ⟨rfl,rfl⟩:=I
        refine g_.same h ⟨?_,hs⟩
        have hle:∃a m,conc c (.sl id off len cap)=.slice (some a) len m∧len≤m:=by
         cases cap with
         | exact m =>
          have jA:id<c.N∧len≤m:=by simpa [wf] using hs
          exact ⟨_,m,by simp only [conc]; rfl,jA.2⟩
         | rest iy alt =>
          have jA:id<c.N∧1≤iy∧len≤c.room id off iy:=by simpa [wf] using hs
          exact ⟨_,_,by simp only [conc]; rfl,jA.2.2⟩
        obtain ⟨a,m,e1,e2⟩:=hle
        rw [e1]
        have:=append_room (P:=P) (w:=w) (ty:=ty) h0 h1 ht hu hd hi (some a) len m 0 (conc c x) _ l1 l2 e2
        rw [this]
        simp [storeCells]
       ·simp at I
      | false =>
       have rO:n≠0:=fun e=>by rw [gP e] at hn; cases hn
       simp only [hn,az] at I
       split at I
       ·-- onto nil
        cases hq:kO n i.bytes with
        | false=>simp [hq] at I
        | true =>
         simp only [hq,ag,aq] at I
         obtain ⟨cap,yI,rQ⟩:=vt (P:=P) (w:=w) (ty:=ty) h0 h1 ht hu hd hi sr none 0 0 n (conc c x) #[] _ l1 VS (by simp [Builtin.firstCells]) (by omega) (by rw [dH]; exact hq)
         obtain ⟨c',g1,g2,g3,g4⟩:=yH (e:=e) (zs:=Builtin.zeroCells (conc c z).cells (cap-(0+n))) (old:=[]) (new:=new) (need:=n) (cap:=cap) h q1 (by simp) l4 (by simpa using l3) (by omega) (by rw [Qu]; congr 2; omega)
         have hv:v=.sl σ.next 0 n (.rest i.size 0):=by rw [← (tf I).1]
         have Jr:eS=(nU σ i.size [] new n).2:=by rw [← (tf I).2]; rfl
         subst hv; subst Jr
         refine ⟨_,c',?_,g2,g3,g4⟩
         rw [g1]
         simp only [conc]
         rw [rQ]
         simp
       ·-- a slice whose capacity is known
        rename_i id off len cc
        have jA:id<c.N∧len≤cc:=by simpa [wf] using hs
        cases hq:Nat.ble (len+n) cc with
        | true =>
         have hle:=aJ.1 hq
         simp only [hq,ag] at I
         cases hw:wrN σ id (off+len*i.size) new with
         | none=>simp [hw] at I
         | some abC =>
          simp only [hw,aq,aF] at I
          obtain ⟨rfl,rfl⟩:=I
          obtain ⟨w',s1,s2,s3⟩:=yC (P:=P) h hw l4
          refine ⟨w',c,?_,by simpa [wf] using ⟨jA.1,hle⟩,s2,s3⟩
          have:=append_room (P:=P) (w:=w) (ty:=ty) h0 h1 ht hu hd hi (some (fG c id off)) len cc n (conc c x) _ l1 l2 hle
          have e1:conc c (.sl id off len (.exact cc))=.slice (some (fG c id off)) len cc:=by simp only [conc,fG]
          rw [e1,this]
          simp only [tu,s1,Result.andThen_ok]
          simp only [conc,fG]
        | false =>
         have bF:cc<len+n:=by
          rcases lR cc (len+n) with h' | h'
          ·exact h'
          ·rw [aJ.2 h'] at hq; cases hq
         simp only [hq,az] at I
         cases iF:kO (len+n) i.bytes with
         | false=>simp [iF] at I
         | true =>
          simp only [iF,ag] at I
          cases jq:rdN σ id off (len*i.size) with
          | none=>simp [jq] at I
          | some old =>
           simp only [jq,aq] at I
           obtain ⟨r1,r2,_⟩:=tM h jq
           have r4:=El (P:=P) h.drew jq
           obtain ⟨cap,yI,rQ⟩:=vt (P:=P) (w:=w) (ty:=ty) h0 h1 ht hu hd hi sr (some (fG c id off)) len cc n (conc c x) _ _ l1 VS (by simp only [Builtin.firstCells]; exact r4) bF iF
           obtain ⟨c',g1,g2,g3,g4⟩:=yH (e:=e) (zs:=Builtin.zeroCells (conc c z).cells (cap-(len+n))) (old:=old) (new:=new) (need:=len+n) (cap:=cap) h q1 r2 l4 (by rw [r1,l3,iw]) yI (Qu _)
           have hv:v=.sl σ.next 0 (len+n) (.rest i.size 0):=by rw [← (tf I).1]
           have Jr:eS=(nU σ i.size old new (len+n)).2:=by rw [← (tf I).2]; rfl
           subst hv; subst Jr
           refine ⟨_,c',?_,g2,g3,g4⟩
           have e1:conc c (.sl id off len (.exact cc))=.slice (some (fG c id off)) len cc:=by simp only [conc,fG]
           rw [g1,e1,rQ]
       ·-- a slice whose capacity is not known
        rename_i id off len iy alt
        have jA:id<c.N∧1≤iy∧len≤c.room id off iy:=by simpa [wf] using hs
        cases tR:Nat.beq iy i.size with
        | false=>simp [tR] at I
        | true =>
         have he:=beq_iff.1 tR
         subst he
         simp only [tR,ag] at I
         have BU:=Fc (id:=id) (off:=off) (k:=i.size) h
         cases hq:Nat.ble (len+n) (kN σ id off i.size) with
         | true =>
          have hle:=aJ.1 hq
          simp only [hq,ag] at I
          have J:c.room id off i.size≠0:=by omega
          cases hw:wrN σ id (off+len*i.size) new with
          | none=>simp [hw] at I
          | some abC =>
           simp only [hw,aq,aF] at I
           obtain ⟨rfl,rfl⟩:=I
           obtain ⟨w',s1,s2,s3⟩:=yC (P:=P) h hw l4
           refine ⟨w',c,?_,by simp only [wf]; exact ⟨jA.1,jA.2.1,by omega⟩,s2,s3⟩
           have:=append_room (P:=P) (w:=w) (ty:=ty) h0 h1 ht hu hd hi (some (fG c id off)) len (c.room id off i.size) n (conc c x) _ l1 l2 (by omega)
           have e1:conc c (.sl id off len (.rest i.size alt))=.slice (some (fG c id off)) len (c.room id off i.size):=by simp only [conc,fG,J,bN]
           rw [e1,this]
           simp only [tu,s1,Result.andThen_ok]
           simp only [conc,fG,J,bN]
         | false =>
          simp only [hq,az] at I
          cases iF:(kO (len+n) i.bytes&&Nat.ble 2 ((len+n)*i.size)) with
          | false=>simp [iF] at I
          | true =>
           have hb:=(aO _ _ ▸ iF).1
           have rP:=aJ.1 (aO _ _ ▸ iF).2
           simp only [iF,ag] at I
           split at I
           ·rename_i old acB acs jq hg
            simp only [aq] at I
            obtain ⟨r1,r2,r3⟩:=tM h jq
            have hv:v=.sl σ.next 0 (len+n) (.rest i.size 0):=by rw [← (tf I).1]; rfl
            have Jr:eS=(nU (σ.put id none) i.size old new (len+n)).2:=by rw [← (tf I).2]; rfl
            subst hv; subst Jr
            by_cases J:len+n≤c.room id off i.size
            ·-- there is room behind it
             obtain ⟨_,acu,C,el,fz,S0,ab2,acv,wj⟩:=h.obj id _ hg
             simp only [FzOk] at wj
             subst wj
             have Bv:c.room id off i.size≠0:=by omega
             have hZ:=h.zz id jA.1
             have uW:rowSize w (c.ρ id).1=C.size:=by unfold rowSize; rw [S0]
             have dZ:(c.ρ id).2+off+(len+n)*i.size≤C.size:=by
              unfold Ctx.room at J
              rw [hZ,uW] at J
              have h1:(len+n)*i.size≤(C.size-((c.ρ id).2+off))/i.size*i.size:=qD _ J
              have h2:=Nat.div_mul_le_self (C.size-((c.ρ id).2+off)) i.size
              have h3:0<(len+n)*i.size:=Nat.mul_pos (by omega) (by omega)
              omega
             obtain ⟨C',s1,s2,s3⟩:=wg (P:=P) (new.map (conc c)) 0 w (c.ρ id).1 ((c.ρ id).2+(off+len*i.size)) C el (0,0) S0 (by intro j _; simp)
              (by simp only [fS,l3]; rw [iw] at dZ; omega) (by simp only [nT]; rintro _ ⟨y,hy,rfl⟩; exact Bp (l4 y hy).2)
             have hlen:(old++new).length=(len+n)*i.size:=by simp [r1,l3,iw]
             have ha:=h.aac (off:=off) (m:=(len+n)*i.size) (cs':=old++new) (C':=C') hg S0 s2 hlen.symm rP (by
               intro y hy
               rcases List.mem_append.1 hy with hy | hy
               ·exact r2 y hy
               ·exact l4 y hy) dZ (by
               intro j y hj
               rw [s3]
               by_cases hj1:j<len*i.size
               ·rw [jL (by omega)] at hj
                rw [ah (by omega)]
                have:=r3 j (conc c y) (by simp [hj])
                rw [tu] at this
                simpa [World.cell?,fG,S0,gx] using this
               ·rw [mS (by omega),r1] at hj
                have VH:j-len*i.size<new.length:=(List.getElem?_eq_some_iff.1 hj).1
                rw [aj (by simp only [fS]; omega)]
                rw [mV,show (c.ρ id).2+off+j-((c.ρ id).2+(off+len*i.size)+0)=j-len*i.size from by omega,hj]
                rfl)
             have Zv:(c.at id off).room σ.next 0 i.size=c.room id off i.size:=by
              simp [Ctx.room,Ctx.at,h.next]
             refine ⟨_,_,?_,?_,ha.1,ha.2⟩
             ·have:=append_room (P:=P) (w:=w) (ty:=ty) h0 h1 ht hu hd hi (some (fG c id off)) len (c.room id off i.size) n (conc c x) _ l1 l2 J
              have e1:conc c (.sl id off len (.rest i.size alt))=.slice (some (fG c id off)) len (c.room id off i.size):=by simp only [conc,fG,Bv,bN]
              rw [e1,this]
              simp only [tu]
              simp only [fG,s1,Result.andThen_ok]
              simp only [conc,Zv,Bv,bN]
              simp [Ctx.at,h.next]
             ·simp only [wf,Zv]
              exact ⟨by simp [Ctx.at,h.next],q1,J⟩
            ·-- a new block
             have bF:c.room id off i.size<len+n:=by omega
             have ku:=AI (P:=P) h.drew hs jq (fun e=>by rw [e]; simp)
             obtain ⟨a,m,e1,e2,_,_⟩:=ku
             have hm:m=c.room id off i.size:=by
              simp only [conc,Value.slice.injEq] at e1
              exact e1.2.2.symm
             subst hm
             obtain ⟨cap,yI,rQ⟩:=vt (P:=P) (w:=w) (ty:=ty) h0 h1 ht hu hd hi sr (some a) len (c.room id off i.size) n (conc c x) _ _ l1 VS (by simp only [Builtin.firstCells]; exact e2) bF hb
             obtain ⟨c',g1,g2,g3,g4⟩:=yH (e:=e) (zs:=Builtin.zeroCells (conc c z).cells (cap-(len+n))) (old:=old) (new:=new) (need:=len+n) (cap:=cap) (h.kill id) q1 r2 l4 (by rw [r1,l3,iw]) yI (Qu _)
             refine ⟨_,c',?_,g2,g3,g4⟩
             rw [e1,rQ]
             exact gy (fun q=>Result.ok q _) g1.symm
           ·simp at I
       ·simp at I
   ·simp at I
  ·simp at I
 ·simp at I
theorem Nz {ts:Array TypeId}{t ty:TypeId}{d s v:V}{eS:H}(h:Rel c σ w)(nA:ts[0]?=some t)(I:copyV P σ t d s=some (v,eS))(hd:wf c d)(hs:wf c s):
  g_ P (Builtin.copy_ ts ty #[conc c d,conc c s]) c w v eS:=by
 unfold copyV at I
 generalize ht:P.underlying t=dt at I
 split at I
 ·rename_i e
  cases hk:bH P e with
  | none=>simp [hk] at I
  | some k =>
   simp only [hk] at I
   split at I
   ·simp only [aq,aF] at I
    obtain ⟨rfl,rfl⟩:=I
    refine g_.same h ⟨?_,by simp [wf]⟩
    simp [Builtin.copy_,nA,run_underlying ht,conc,Builtin.lenOf,cW hk,Builtin.firstCells,goInt]
   ·rename_i id off len cap
    simp only [aq,aF] at I
    obtain ⟨rfl,rfl⟩:=I
    obtain ⟨a,m,e1⟩:=qV c id off len cap
    refine g_.same h ⟨?_,by simp [wf]⟩
    rw [e1]
    simp [Builtin.copy_,nA,run_underlying ht,conc,Builtin.lenOf,cW hk,Builtin.firstCells,goInt,loadCells,loadCellsFrom]
   ·rename_i id off len cap
    simp only [aq,aF] at I
    obtain ⟨rfl,rfl⟩:=I
    obtain ⟨a,m,e1⟩:=qV c id off len cap
    refine g_.same h ⟨?_,by simp [wf]⟩
    rw [e1]
    simp [Builtin.copy_,nA,run_underlying ht,conc,Builtin.lenOf,cW hk,Builtin.firstCells,goInt,storeCells]
   ·rename_i id off len cap a0
    simp only [aq,aF] at I
    obtain ⟨rfl,rfl⟩:=I
    obtain ⟨a,m,e1⟩:=qV c id off len cap
    refine g_.same h ⟨?_,by simp [wf]⟩
    rw [e1]
    simp [Builtin.copy_,nA,run_underlying ht,conc,Builtin.lenOf,cW hk,Builtin.firstCells,goInt,loadCells,loadCellsFrom,storeCells]
   ·rename_i id off len cap yJ off' aad yK
    cases jq:rdN σ yJ off' (Nat.min aad len*k) with
    | none=>simp [jq] at I
    | some cs =>
     simp only [jq] at I
     cases hw:wrN σ id off cs with
     | none=>simp [hw] at I
     | some abC =>
      simp only [hw,aq,aF] at I
      obtain ⟨rfl,rfl⟩:=I
      obtain ⟨r1,r2,_⟩:=tM h jq
      obtain ⟨a,m,e1,e2,_,_⟩:=AI (P:=P) h hs jq (fun e=>by rw [e]; simp)
      obtain ⟨w',s1,s2,s3⟩:=yC (P:=P) h hw r2
      refine ⟨w',c,?_,by simp [wf],s2,s3⟩
      have Qv:∃b n,conc c (.sl id off len cap)=.slice (some b) len n∧(storeCells b (cs.map (conc c))).run P w=.ok () w':=by
       cases cap with
       | exact n=>exact ⟨_,n,by simp only [conc]; rfl,s1⟩
       | rest J alt =>
        by_cases h3:c.room id off J=0
        ·have hlen:len=0:=by
          have:id<c.N∧1≤J∧len≤c.room id off J:=by simpa [wf] using hd
          omega
         subst hlen
         have lG:cs=[]:=List.length_eq_zero_iff.1 (by simpa using r1)
         subst lG
         refine ⟨⟨(c.ρ id).1,(c.ρ id).2+(if c.room id off J=0 then alt else off),none⟩,c.room id off J,by simp only [conc],?_⟩
         simpa [storeCells] using s1
        ·exact ⟨fG c id off,c.room id off J,by simp only [conc,h3,bN,fG],s1⟩
      obtain ⟨b,n,e3,e4⟩:=Qv
      rw [e1,e3]
      simp only [Builtin.copy_,nA,lN,mT,kK,Sem.run_bind,run_underlying ht,Result.andThen_ok,Builtin.lenOf,Sem.run_pure,cW hk,
       Builtin.firstCells,e2,e4]
      simp [conc,goInt]
   ·simp at I
 ·simp at I
theorem LJ {ts:Array TypeId}{t ty:TypeId}{x:V}{eS:H}(h:Rel c σ w)(J:ts[0]?=some t)(I:clearV P σ t x=some eS)(hx:wf c x):
  ∃w' c',(Builtin.clear_ ts ty #[conc c x]).run P w=.ok (.tuple #[]) w'∧Rel c' eS w'∧cV c w c' w':=by
 unfold clearV at I
 generalize ht:P.underlying t=dt at I
 split at I
 ·simp only [aq] at I
  subst I
  exact ⟨w,c,by simp [Builtin.clear_,J,run_underlying ht,conc],h,cV.refl c w⟩
 ·rename_i id
  split at I
  ·rename_i es clock hg
   obtain ⟨hw,hb⟩:=h.obj id _ hg
   have pV:=j6 (P:=P) hb (by simp)
   simp only [aq] at I
   subst I
   have hm:=h.tO (es':=[]) (k':=clock) hg (by simp)
   refine ⟨_,_,?_,hm.1,hm.2⟩
   simp only [Builtin.clear_,J,lN,mT,Sem.run_bind,run_underlying ht,Result.andThen_ok,conc,pV]
   rw [kT hb (by simp)]
   simp
  ·simp at I
 ·simp only [aq] at I
  subst I
  exact ⟨w,c,by simp [Builtin.clear_,J,run_underlying ht,conc],h,cV.refl c w⟩
 ·rename_i e id off len cap
  cases hz:zeroT P e with
  | none=>simp [hz] at I
  | some z =>
   simp only [hz] at I
   cases hq:(Nat.ble 1 z.cells.length&&Nat.ble 1 len) with
   | false=>simp [hq] at I
   | true =>
    simp only [hq,ag] at I
    simp only [aO,aJ] at hq
    obtain ⟨z1,z2⟩:=gD hz c w
    obtain ⟨w',s1,s2,s3⟩:=yC (P:=P) h I (fun v hv=>⟨jV z2 v (j9 hv),lT hz v (j9 hv)⟩)
    have Bu:=ny c z.cells len hq.1
    have key:∃m,conc c (.sl id off len cap)=.slice (some (fG c id off)) len m:=by
     cases cap with
     | exact m=>exact ⟨m,by simp only [conc,fG]⟩
     | rest iy alt =>
      have jA:id<c.N∧1≤iy∧len≤c.room id off iy:=by simpa [wf] using hx
      have h3:c.room id off iy≠0:=by omega
      exact ⟨c.room id off iy,by simp only [conc,fG,h3,bN]⟩
    obtain ⟨m,e1⟩:=key
    refine ⟨w',c,?_,s2,s3⟩
    rw [e1]
    obtain ⟨l,rfl⟩:∃l,len=l+1:=⟨len-1,by omega⟩
    have Ct:Builtin.zeroCells (conc c z).cells (l+1)=((repeatL z.cells (l+1)).map (conc c)).toArray:=by
     rw [fT,←Bu]
     simp [Builtin.zeroCells]
    simp only [Builtin.clear_,J,lN,mT,Sem.run_bind,run_underlying ht,Result.andThen_ok,z1,Ct,s1]
    simp
 ·simp at I
end
end Go.Proofs.YtefepnnfphdkpaaGreat.Am
