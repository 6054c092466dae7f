/- SpaceRoots: a part of its proof; conditions: its statement's. -/
import Derived.Test.YtefepnnfphdkpaaGreatF02
namespace Go.Proofs.YtefepnnfphdkpaaGreat.Am
open Go
section
variable {P:Program} {c:Ctx} {σ:H} {w:World}
theorem cW {t:TypeId}{k:Nat}(h:bH P t=some k)(w:World): (sizeOf t).run P w=.ok k w:=by
 unfold bH at h
 cases hi:P.info? t with
 | none=>simp [hi] at h
 | some i=>simp [hi] at h; simp [sizeOf,typeInfo,hi,h]
theorem sD {t:TypeId}{b:Bool}(h:cm P t=some b)(w:World): (isAgg t).run P w=.ok b w:=by
 unfold cm at h
 cases hu:P.underlying t with
 | none=>simp [hu] at h
 | some d=>cases d <;> simp [hu] at h <;> subst h <;> simp [isAgg,run_underlying hu]
theorem Bn (s:ByteArray): (⟨((s.data.toList.map (·.toNat)).map UInt8.ofNat).toArray⟩:ByteArray)=s:=by
 have:(s.data.toList.map (·.toNat)).map UInt8.ofNat=s.data.toList:=by
  rw [vX]
  have:(UInt8.ofNat∘fun (x:UInt8)=>x.toNat)=id:=by funext x; simp
  rw [this]; simp
 rw [this]
theorem rE {x:Value}{v:V}(h:ofScalar x=some v)(c:Ctx): conc c v=x∧wf c v∧v.cells=[v]:=by
 unfold ofScalar at h
 split at h <;> simp only [aq,reduceCtorEq] at h
 all_goals subst h
 all_goals refine ⟨?_,?_,by simp [V.cells]⟩
 all_goals first
  | (simp only [conc]; done)
  | (simp only [wf]; done)
  | (simp only [conc]; rw [Bn])
  | (simp only [wf,nT]; rintro x ⟨y,_,rfl⟩; exact y.toNat_lt)
theorem Jg {l:List Value}{m:List V}(h:mapO ofScalar l=some m)(c:Ctx): m.map (conc c)=l∧(∀v∈m,wf c v):=by
 induction l generalizing m with
 | nil=>simp [mapO] at h; subst h; simp
 | cons x l ih =>
  simp only [mapO] at h
  cases I:ofScalar x with
  | none=>simp [I] at h
  | some y =>
   cases J:mapO ofScalar l with
   | none=>simp [I,J] at h
   | some m' =>
    simp [I,J] at h
    subst h
    have h1:=rE I c
    have h2:=ih J
    exact ⟨by simp [h1.1,h2.1],by simpa using ⟨h1.2.1,h2.2⟩⟩
theorem sE {x:Value}{v:V}(h:ofValue x=some v)(c:Ctx): conc c v=x∧wf c v:=by
 unfold ofValue at h
 split at h
 ·rename_i cs
  cases hm:mapO ofScalar cs.toList with
  | none=>simp [hm] at h
  | some m =>
   simp [hm] at h
   subst h
   have I:=Jg hm c
   refine ⟨?_,?_⟩
   ·simp only [conc,gC,I.1]
   ·simp only [wf,gK]; exact I.2
 ·rename_i vs
  split at h
  ·rename_i J
   simp at h; subst h
   have:vs = #[]:=by simpa using J
   subst this
   exact ⟨by simp [conc,concL],by simp [wf,fu]⟩
  ·simp at h
 ·exact ⟨(rE h c).1,(rE h c).2.1⟩
theorem gD {t:TypeId}{z:V}(h:zeroT P t=some z)(c:Ctx)(w:World): (zeroValue t).run P w=.ok (conc c z) w∧wf c z:=by
 unfold zeroT at h
 cases hi:P.info? t with
 | none=>simp [hi] at h
 | some i =>
  cases I:i.zero with
  | none=>simp [hi,I] at h
  | some x =>
   simp only [hi,I,cI] at h
   have h0:ofValue x=some z:=by
    split at h
    ·simp at h
    ·exact h
   have J:=sE h0 c
   exact ⟨by simp [zeroValue,typeInfo,hi,I,J.1],J.2⟩
theorem sq {x:Value}{v:V}(h:ofScalar x=some v): storable v=true:=by
 unfold ofScalar at h
 split at h <;> simp only [aq,reduceCtorEq] at h
 all_goals subst h; rfl
theorem lT {t:TypeId}{z:V}(h:zeroT P t=some z): ∀v∈z.cells,storable v=true:=by
 unfold zeroT at h
 split at h
 ·rename_i x hx
  split at h
  ·simp at h
  ·rename_i hn
   unfold ofValue at h
   split at h
   ·rename_i cs
    cases hm:mapO ofScalar cs.toList with
    | none=>simp [hm] at h
    | some m =>
     simp [hm] at h
     subst h
     have:∀(l:List Value) (m:List V),mapO ofScalar l=some m→∀v∈m,storable v=true:=by
      intro l
      induction l with
      | nil=>intro m h; simp [mapO] at h; subst h; simp
      | cons a l ih =>
       intro m h
       simp only [mapO] at h
       cases I:ofScalar a with
       | none=>simp [I] at h
       | some b =>
        cases J:mapO ofScalar l with
        | none=>simp [I,J] at h
        | some m' =>
         simp [I,J] at h
         subst h
         intro v hv
         rcases List.mem_cons.1 hv with rfl | hv
         ·exact sq I
         ·exact ih m' J v hv
     exact this _ _ hm
   ·rename_i vs
    split at h
    ·rename_i VF
     simp only [aq] at h
     exact absurd (by simp [ofValue,VF]) (hn [])
    ·simp at h
   ·intro v hv
    have I:=(rE h ⟨fun _=>(0,0),fun _=>0,0,fun _=>false⟩).2.2
    rw [I] at hv
    simp only [vO] at hv
    subst hv
    exact sq h
 ·simp at h
theorem wW (c:Ctx)(v:V): (conc c v).cells.toList=v.cells.map (conc c):=by
 cases v with
 | agg l=>simp [conc,Value.cells,V.cells,gC]
 | sl id off len cap=>cases cap <;> simp [conc,Value.cells,V.cells]
 | _=>simp [conc,Value.cells,V.cells]
theorem fT (c:Ctx)(v:V): (conc c v).cells=(v.cells.map (conc c)).toArray:=by
 rw [←wW]
theorem jV {v:V}(h:wf c v): ∀x∈v.cells,wf c x:=by
 cases v with
 | agg l=>simpa [V.cells,wf,gK] using h
 | _=>simpa [V.cells] using h
theorem yA {env:Env}{n:Nat}{a:Act}(he:dQ c env n a){x:Operand}{v:V}(h:evO env x=some v): a.eval x=conc c v∧wf c v:=by
 cases x with
 | tmp t=>simp [evO] at h; subst h; exact ⟨by simpa [Act.eval] using he.val t,he.uS t⟩
 | const k=>have:=sE (show ofValue k=some v from h) c; exact ⟨by simp [Act.eval,this.1],this.2⟩
 | global g=>simp [evO] at h
 | func f=>simp [evO] at h; subst h; exact ⟨by simp [Act.eval,conc,concL],by simp [wf,fu]⟩
def fG (c:Ctx)(id off:Nat): Addr:=⟨(c.ρ id).1,(c.ρ id).2+off,none⟩
theorem tu (id off j:Nat): (fG c id off).add j=fG c id (off+j):=by
 simp only [fG,Addr.add_lit,gx]
theorem cell_of {id n:Nat}{cs:List V}{st:Bool}(h:Rel c σ w)(I:σ.tr.get id=some (.cells n cs st)){j:Nat}{v:V}(hv:cs[j]?=some v):
  w.cell? (fG c id j)=some (conc c v):=by
 obtain ⟨_,_,C,e,fz,J,_,hc,_⟩:=h.obj id _ I
 simp [World.cell?,fG,J,hc j v hv]
theorem tM {id off k:Nat}{vs:List V}(h:Rel c σ w)(I:rdN σ id off k=some vs):
  vs.length=k∧(∀v∈vs,wf c v∧storable v=true)∧∀j x,(vs.map (conc c))[j]?=some x→w.cell? ((fG c id off).add j)=some x:=by
 unfold rdN at I
 split at I
 ·rename_i n cs st hg
  obtain ⟨hn,J,_⟩:=h.obj id _ hg
  cases hb:Nat.ble (off+k) n with
  | false=>simp [hb] at I
  | true =>
   have hle:=aJ.1 hb
   simp only [hb,ag,aq] at I
   have VF:vs=(cs.drop off).take k:=by
    rw [←I]
    cases hq:(Nat.beq off 0&&Nat.beq k n) with
    | false=>rfl
    | true =>
     simp only [aO] at hq
     have h0:=beq_iff.1 hq.1
     have h1:=beq_iff.1 hq.2
     subst h0; simp [h1,hn]
   subst VF
   refine ⟨by simp; omega,fun v hv=>J v (iT (gW hv)),fun j x hx => ?_⟩
   rw [tu]
   simp only [mV,Option.map_eq_some_iff] at hx
   obtain ⟨v,hv,rfl⟩:=hx
   have tN:cs[off+j]?=some v:=by
    rw [jM] at hv
    split at hv
    ·rwa [iU] at hv
    ·simp at hv
   exact cell_of h hg tN
 ·simp at I
theorem El {id off k:Nat}{vs:List V}(h:Rel c σ w)(I:rdN σ id off k=some vs):
  (loadCells (fG c id off) k).run P w=.ok (vs.map (conc c)).toArray w:=by
 obtain ⟨J,_,hc⟩:=tM h I
 have:=run_loadCells_list (P:=P) (w:=w) (fG c id off) (vs.map (conc c)) hc
 rwa [fS,J] at this
theorem VG {id off:Nat}{v:V}(h:Rel c σ w)(I:yf σ id off=some v): w.cell? (fG c id off)=some (conc c v)∧wf c v:=by
 unfold yf at I
 split at I
 ·rename_i n cs st hg
  rw [fF] at I
  obtain ⟨_,J,_⟩:=h.obj id _ hg
  exact ⟨cell_of h hg I,(J v (bC I)).1⟩
 ·simp at I
theorem GU {t:TypeId}{a v:V}(h:Rel c σ w)(I:loadV P σ t a=some v):
  (Instr.loadAt t (conc c a)).run P w=.ok (conc c v) w∧wf c v:=by
 unfold loadV at I
 split at I
 ·rename_i id off
  have ha:conc c (.ptr id off)=.pointer (some (fG c id off)):=by simp [conc,fG]
  rw [ha]
  split at I
  ·rename_i hg
   split at I
   ·rename_i k hk
    cases J:rdN σ id off k with
    | none=>simp [J] at I
    | some vs =>
     simp [J] at I
     subst I
     have h1:=El (P:=P) h J
     have h2:=tM h J
     refine ⟨?_,by simp only [wf,gK]; exact fun v hv=>(h2.2.1 v hv).1⟩
     simp [Instr.loadAt,Instr.sureAddr,loadVar,sD hg,cW hk,h1,conc,gC]
   ·simp at I
  ·rename_i hg
   have h1:=VG h I
   exact ⟨by simp [Instr.loadAt,Instr.sureAddr,loadVar,sD hg,h1.1],h1.2⟩
  ·simp at I
 ·simp at I
def World.setRow (w:World)(b:Nat)(C:Array Value)(e:TypeId)(I:Nat×Nat): World:={ w with heap:=w.heap.setIfInBounds b (.cells C e I) }
theorem Jh {b:Nat}{C:Array Value}{e:TypeId}{fz:Nat×Nat}(hb:w.heap[b]?=some (.cells C e fz))(p:Nat)(v:Value):
  w.setCell ⟨b,p,none⟩ v=World.setRow w b (C.setIfInBounds p v) e fz:=by
 unfold World.setCell World.setRow
 congr 1
 apply qE
 intro i
 rw [DV,mR]
 obtain ⟨I,J⟩:=Array.getElem?_eq_some_iff.1 hb
 by_cases hi:b=i
 ·subst hi
  simp [I,J]
 ·simp [hi]
theorem h_ {b:Nat}{C:Array Value}{e:TypeId}{I:Nat×Nat}(J:b<w.heap.size)(i:Nat):
  (World.setRow w b C e I).heap[i]?=if b=i then some (.cells C e I) else w.heap[i]?:=by
 unfold World.setRow
 simp only [mR,J,bO]
theorem setRow_setRow {b:Nat}{C D:Array Value}{e:TypeId}{I:Nat×Nat}:
  World.setRow (World.setRow w b C e I) b D e I=World.setRow w b D e I:=by
 unfold World.setRow
 simp
theorem wg : ∀(vs:List Value) (i:Nat) (w:World) (b p:Nat) (C:Array Value) (e:TypeId) (I:Nat×Nat),
  w.heap[b]?=some (.cells C e I)→(∀j,j<C.size→¬ (I.1≤j∧j<I.2))→p+i+vs.length≤C.size→(∀v∈vs,v.oneCell'=true) →
  ∃C',(storeCells ⟨b,p,none⟩ vs i).run P w=.ok () (World.setRow w b C' e I)∧C'.size=C.size ∧
   ∀j,C'[j]?=if p+i≤j∧j<p+i+vs.length then vs[j-(p+i)]? else C[j]?:=by
 intro vs
 induction vs with
 | nil =>
  intro i w b p C e I hb _ _ _
  refine ⟨C,?_,rfl,fun j=>by simp; omega⟩
  have:World.setRow w b C e I=w:=by
   unfold World.setRow
   congr 1
   apply qE
   intro k
   rw [mR]
   obtain ⟨J,pS⟩:=Array.getElem?_eq_some_iff.1 hb
   by_cases hk:b=k
   ·subst hk; simp [J,pS]
   ·simp [hk]
  simp [storeCells,this]
 | cons v vs ih =>
  intro i w b p C e I hb hf hl ho
  have J:b<w.heap.size:=(Array.getElem?_eq_some_iff.1 hb).1
  simp only [aS] at hl
  have uT:w.cell? ⟨b,p+i,none⟩=some (C[p+i]'(by omega)):=by
   simp [World.cell?,hb]
  have hfr:w.frozen? ⟨b,p+i,none⟩=false:=by
   have:=hf (p+i) (by omega)
   simp only [World.frozen?,hb]
   simpa using this
  have sF:(store (Addr.add ⟨b,p,none⟩ i) v).run P w=.ok () (World.setRow w b (C.setIfInBounds (p+i) v) e I):=by
   rw [Addr.add_lit,run_store P w _ v _ (ho v (by simp)),uT]
   simp only [hfr,dY,bN]
   rw [Jh hb]
  obtain ⟨C',h1,h2,h3⟩:=ih (i+1) (World.setRow w b (C.setIfInBounds (p+i) v) e I) b p (C.setIfInBounds (p+i) v) e I
   (by rw [h_ J]; simp) (by simpa using hf) (by simp; omega) (fun x hx=>ho x (by simp [hx]))
  refine ⟨C',?_,by simpa using h2,fun j => ?_⟩
  ·simp only [storeCells,Sem.run_bind,sF,Result.andThen_ok,h1,setRow_setRow]
  ·rw [h3 j]
   by_cases hj:j=p+i
   ·subst hj
    have e1:¬ (p+(i+1)≤p+i∧p+i<p+(i+1)+vs.length):=by omega
    have e2:p+i≤p+i∧p+i<p+i+(v::vs).length:=by simp
    rw [ah e1,aj e2]
    have:p+i<C.size:=by omega
    simp [this]
   ·by_cases VH:p+(i+1)≤j∧j<p+(i+1)+vs.length
    ·have e2:p+i≤j∧j<p+i+(v::vs).length:=by simp; omega
     rw [aj VH,aj e2]
     have:j-(p+i)=(j-(p+(i+1)))+1:=by omega
     rw [this]; simp
    ·have e2:¬ (p+i≤j∧j<p+i+(v::vs).length):=by simp; omega
     rw [ah VH,ah e2]
     simp [jO hj]
theorem Bp {v:V}(h:storable v=true): (conc c v).oneCell'=true:=by
 cases v with
 | sl id off len cap=>cases cap <;> simp [conc,Value.oneCell']
 | agg l=>simp [storable] at h
 | bj l=>simp [storable] at h
 | _=>simp [conc,Value.oneCell']
theorem FzOk.clear {I:Nat×Nat}{n:Nat}(h:FzOk false I n): ∀j,j<n→¬ (I.1≤j∧j<I.2):=by
 intro j J
 simp [FzOk] at h; subst h; simp
theorem cD (h:H)(id:Nat)(o:Option Obj)(j:Nat): (h.put id o).tr.get j=if j=id then o else h.tr.get j:=by
 simp [H.put,aX]
theorem iz (h:H)(o:Obj)(j:Nat): (h.new o).tr.get j=if j=h.next then some o else h.tr.get j:=by
 simp [H.new,aX]
theorem nW {b:Nat}{C C':Array Value}{e:TypeId}{fz qv:Nat×Nat}(J:w.heap[b]?=some (.cells C e fz))(hs:C'.size=C.size)(i:Nat):
  rowSize (World.setRow w b C' e qv) i=rowSize w i:=by
 have I:b<w.heap.size:=(Array.getElem?_eq_some_iff.1 J).1
 unfold rowSize
 rw [h_ I]
 by_cases hi:b=i
 ·subst hi; simp [J,hs]
 ·simp [hi]
theorem Rel.Kl {id n:Nat}{cs cs':List V}{st':Bool}{C C':Array Value}{e:TypeId}{fz qv:Nat×Nat}(h:Rel c σ w)(hg:σ.tr.get id=some (.cells n cs false))
 (hb:w.heap[(c.ρ id).1]?=some (.cells C e fz))(hs:C'.size=C.size)(hl:n=cs'.length)(jP:∀v∈cs',wf c v∧storable v=true)
 (hv:∀j v,cs'[j]?=some v→C'[(c.ρ id).2+j]?=some (conc c v))(Lw:FzOk st' qv C.size):
  Rel c (σ.put id (some (.cells n cs' st'))) (World.setRow w (c.ρ id).1 C' e qv)∧cV c w c (World.setRow w (c.ρ id).1 C' e qv):=by
 have bF:(c.ρ id).1<w.heap.size:=(Array.getElem?_eq_some_iff.1 hb).1
 have hX:=h.yz hg (by intro _ _ he; cases he)
 obtain ⟨hn,hw,ab1,VI,abB,VJ,hle,hc,_⟩:=h.obj id _ hg
 rw [hb] at VJ
 simp only [aq,Go.Obj.cells.injEq] at VJ
 obtain ⟨rfl,rfl,rfl⟩:=VJ
 refine ⟨⟨h.next,fun j o I => ?_,fun j I=>by simpa [World.setRow] using h.lF j I,fun j I=>by rw [nW hb hs]; exact h.zz j I,fun i j o o' hi I he => ?_,fun j o I => ?_,fun j o9 nt I hx => ?_,fun j o I hx => ?_⟩,
  ⟨Ext.refl c,by simp [World.setRow],fun b _=>nW hb hs b,fun b _ hn => ?_,fun j h1 h2=>by omega,rfl,rfl⟩⟩
 ·rw [cD] at I
  by_cases J:j=id
  ·subst J; exact h.live j _ hg
  ·simp [J] at I; exact h.live j o I
 ·rw [cD] at hi I
  have pT:∃o,σ.tr.get i=some o:=by
   by_cases kR:i=id
   ·subst kR; exact ⟨_,hg⟩
   ·simp [kR] at hi; exact ⟨_,hi⟩
  have pU:∃o,σ.tr.get j=some o:=by
   by_cases kR:j=id
   ·subst kR; exact ⟨_,hg⟩
   ·simp [kR] at I; exact ⟨_,I⟩
  obtain ⟨_,pT⟩:=pT
  obtain ⟨_,pU⟩:=pU
  exact h.inj i j _ _ pT pU he
 ·rw [cD] at I
  by_cases J:j=id
  ·subst J
   simp at I
   subst I
   exact ⟨hl,jP,C',e,qv,by rw [h_ bF]; simp,by rw [hs]; exact hle,hv,by rw [hs]; exact Lw⟩
  ·simp [J] at I
   have dS:(c.ρ id).1≠(c.ρ j).1:=fun he=>J (h.wV I hg he.symm hX)
   have:=h.obj j o I
   cases o with
   | cells n' yB st' =>
    obtain ⟨a1,a2,D,e',qv,a3,a4⟩:=this
    exact ⟨a1,a2,D,e',qv,by rw [h_ bF]; simpa [dS] using a3,a4⟩
   | map es clock=>exact ⟨this.1,by rw [h_ bF]; simpa [dS] using this.2⟩
   | loop busy ay env ps as bd =>
    obtain ⟨fn,tmps,D,b1,b2⟩:=this
    exact ⟨fn,tmps,D,by rw [h_ bF]; simpa [dS] using b1,b2⟩
   | iter dh since last seen=>exact ⟨this.1,this.2.1,by rw [h_ bF]; simpa [dS] using this.2.2⟩
   | kg l pos=>exact ⟨this.1,this.2.1,by rw [h_ bF]; simpa [dS] using this.2.2⟩
 ·rw [cD] at I
  by_cases J:j=id
  ·subst J
   simp at I
   rw [I.1] at hg
   exact h.one j _ _ hg hx
  ·simp [J] at I
   exact h.one j o9 nt I hx
 ·rw [cD] at I
  by_cases J:j=id
  ·rw [J,hX] at hx; cases hx
  ·simp [J] at I; exact h.fx j o I hx
 ·rw [h_ bF]
  have:(c.ρ id).1≠b:=fun he=>by have:=hn id (h.live id _ hg) he; rw [hX] at this; cases this
  simp [this]
theorem Rel.setRow {id n:Nat}{cs cs':List V}{C C':Array Value}{e:TypeId}{J:Nat×Nat}(h:Rel c σ w)(hg:σ.tr.get id=some (.cells n cs false))
 (hb:w.heap[(c.ρ id).1]?=some (.cells C e J))(hs:C'.size=C.size)(hl:n=cs'.length)(jP:∀v∈cs',wf c v∧storable v=true)
 (hv:∀j v,cs'[j]?=some v→C'[(c.ρ id).2+j]?=some (conc c v)):
  Rel c (σ.put id (some (.cells n cs' false))) (World.setRow w (c.ρ id).1 C' e J)∧cV c w c (World.setRow w (c.ρ id).1 C' e J):=by
 refine h.Kl hg hb hs hl jP hv ?_
 obtain ⟨_,_,ab1,VI,abB,I,_,_,wj⟩:=h.obj id _ hg
 rw [hb] at I
 simp only [aq,Go.Obj.cells.injEq] at I
 obtain ⟨rfl,rfl,rfl⟩:=I
 exact wj
theorem yC {id off:Nat}{vs:List V}{eS:H}(h:Rel c σ w)(I:wrN σ id off vs=some eS)(jP:∀v∈vs,wf c v∧storable v=true):
  ∃w',(storeCells (fG c id off) (vs.map (conc c))).run P w=.ok () w'∧Rel c eS w'∧cV c w c w':=by
 unfold wrN at I
 split at I
 ·rename_i n cs hg
  obtain ⟨hn,hw,C,e,fz,hb,hle,hc,wj⟩:=h.obj id _ hg
  cases hq:Nat.ble (off+vs.length) n with
  | false=>simp [hq] at I
  | true =>
   have VK:=aJ.1 hq
   simp only [hq,ag,aq] at I
   have lG:(cond (Nat.beq off 0&&Nat.beq vs.length n) vs (cs.take off++(vs++cs.drop (off+vs.length))))=cs.take off++(vs++cs.drop (off+vs.length)):=by
    cases J:(Nat.beq off 0&&Nat.beq vs.length n) with
    | false=>rfl
    | true =>
     simp only [aO] at J
     have h0:=beq_iff.1 J.1
     have h1:=beq_iff.1 J.2
     subst h0
     simp [h1,hn]
   rw [lG] at I
   subst I
   obtain ⟨C',h1,h2,h3⟩:=wg (P:=P) (vs.map (conc c)) 0 w (c.ρ id).1 ((c.ρ id).2+off) C e fz hb wj.clear (by simp; omega)
    (by simp only [nT]; rintro _ ⟨v,hv,rfl⟩; exact Bp (jP v hv).2)
   refine ⟨_,h1,?_⟩
   refine h.setRow hg hb h2 (by simp; omega) ?_ ?_
   ·intro v hv
    simp only [qK] at hv
    rcases hv with hv | hv | hv
    ·exact hw v (gW hv)
    ·exact jP v hv
    ·exact hw v (iT hv)
   ·intro j v hv
    rw [h3]
    by_cases h4:j<off
    ·rw [jL (by simp; omega),jM,aj h4] at hv
     rw [ah (by omega)]
     exact hc j v hv
    ·rw [mS (by simp; omega)] at hv
     have hlen:(cs.take off).length=off:=by simp; omega
     rw [hlen] at hv
     by_cases h5:j<off+vs.length
     ·rw [jL (by omega)] at hv
      rw [aj (by simp; omega)]
      rw [mV,show (c.ρ id).2+j-((c.ρ id).2+off+0)=j-off from by omega,hv]
      rfl
     ·rw [mS (by omega),iU] at hv
      rw [ah (by simp; omega)]
      refine hc j v ?_
      rw [←hv]; congr 1; omega
 ·simp at I
theorem Ni {t:TypeId}{a v:V}{J:H}(h:Rel c σ w)(I:g9 P σ t a v=some J)(hv:wf c v):
  ∃w',(Instr.storeAt t (conc c a) (conc c v)).run P w=.ok () w'∧Rel c J w'∧cV c w c w':=by
 unfold g9 at I
 split at I
 ·rename_i id off
  split at I
  ·rename_i k hk
   cases hq:(Nat.beq v.cells.length k&&v.cells.all storable) with
   | false=>simp [hq] at I
   | true =>
    simp only [hq,ag] at I
    simp only [aO] at hq
    have hlen:=beq_iff.1 hq.1
    obtain ⟨w',h1,h2,h3⟩:=yC (P:=P) h I (fun x hx=>⟨jV hv x hx,(List.all_eq_true.1 hq.2) x hx⟩)
    refine ⟨w',?_,h2,h3⟩
    have ha:conc c (.ptr id off)=.pointer (some (fG c id off)):=by simp [conc,fG]
    rw [ha]
    simp only [Instr.storeAt,Instr.sureAddr,pure_bind,storeVar,Sem.run_bind,cW hk,Result.andThen_ok]
    have:(conc c v).cells.size=k:=by rw [fT]; simpa using hlen
    simp [this,wW,h1]
  ·simp at I
 ·simp at I
def Ctx.grow (c:Ctx)(b base size:Nat): Ctx:=⟨fun i=>if i=c.N then (b,base) else c.ρ i,fun x=>if x=b then size else c.Z x,c.N+1,fun i=>if i=c.N then false else c.X i⟩
theorem kS (c:Ctx)(b base size:Nat): (c.grow b base size).N=c.N+1:=rfl
theorem bB (c:Ctx)(b base size:Nat): (c.grow b base size).ρ c.N=(b,base):=by simp [Ctx.grow]
theorem dx (c:Ctx)(b base size:Nat){i:Nat}(h:i<c.N): (c.grow b base size).ρ i=c.ρ i:=by
 simp [Ctx.grow,jg h]
theorem wX (c:Ctx)(b base size:Nat): (c.grow b base size).X c.N=false:=by simp [Ctx.grow]
theorem ga (c:Ctx)(b base size:Nat){i:Nat}(h:i<c.N): (c.grow b base size).X i=c.X i:=by
 simp [Ctx.grow,jg h]
theorem iA (w:World)(o:Go.Obj)(i:Nat): (w.alloc o).heap[i]?=if i=w.heap.size then some o else w.heap[i]?:=by
 simp only [World.alloc,D1]
 try rfl
def objSize : Go.Obj→Nat
 | .cells C _ _=>C.size
 | _=>0
theorem lH (w:World)(o:Go.Obj){b:Nat}(h:b<w.heap.size): rowSize (w.alloc o) b=rowSize w b:=by
 unfold rowSize; rw [iA]; simp [jg h]
theorem Bo (w:World)(o:Go.Obj): rowSize (w.alloc o) w.heap.size=objSize o:=by
 unfold rowSize; rw [iA]; simp; cases o <;> rfl
theorem GV (h:Rel c σ w)(base size:Nat): Ext c (c.grow w.heap.size base size) :=
 ⟨by simp [Ctx.grow],fun id hi=>dx c _ _ _ hi,fun id hi=>by
  have:=h.lF id hi
  simp [Ctx.grow,jg this],fun id hi=>ga c _ _ _ hi⟩
theorem Cm.later {c':Ctx}{w':World}(e:Ext c c'){id:Nat}{o:Obj}(I:id<c.N)(J:w'.heap[(c.ρ id).1]?=w.heap[(c.ρ id).1]?)(h:Cm c w id o): Cm c' w' id o:=by
 cases o with
 | cells n cs st =>
  obtain ⟨a1,a2,C,el,fz,a3,a4,a5,a6⟩:=h
  refine ⟨a1,fun v hv=>⟨(cg e v (a2 v hv).1).2,(a2 v hv).2⟩,C,el,fz,by rw [e.ρ id I,J,a3],by rw [e.ρ id I]; exact a4,fun j v hv => ?_,a6⟩
  rw [e.ρ id I,(cg e v (a2 v (bC hv)).1).1]
  exact a5 j v hv
 | map es clock =>
  refine ⟨fun x hx=>⟨(cg e _ (h.1 x hx).1).2,(cg e _ (h.1 x hx).2).2⟩,?_⟩
  rw [e.ρ id I,J,h.2]
  congr 2
  congr 1
  refine oX fun x hx => ?_
  simp only [cj,(cg e _ (h.1 x hx).1).1,(cg e _ (h.1 x hx).2).1]
 | loop busy ay env ps as bd =>
  obtain ⟨fn,tmps,D,b1,b2,b3,b4⟩:=h
  exact ⟨fn,tmps,D,by rw [e.ρ id I,J]; exact b1,b2,fun t=>by rw [b3 t,(cg e _ (b4 t)).1],fun t=>(cg e _ (b4 t)).2⟩
 | iter dh since last seen=>exact ⟨gX h.1 e.le,by rw [e.ρ id I]; exact h.2.1,by rw [e.ρ id I,J,e.ρ dh h.1]; exact h.2.2⟩
 | kg l pos=>exact ⟨h.1,by rw [e.ρ id I]; exact h.2.1,by rw [e.ρ id I,J]; exact h.2.2⟩
theorem Rel.new (h:Rel c σ w)(o:Obj)(O:Go.Obj)(base:Nat)(yg:base=0)(ho:Cm (c.grow w.heap.size base (objSize O)) (w.alloc O) c.N o):
  Rel (c.grow w.heap.size base (objSize O)) (σ.new o) (w.alloc O)∧cV c w (c.grow w.heap.size base (objSize O)) (w.alloc O):=by
 have e:=GV h base (objSize O)
 have hold:∀id o,σ.tr.get id=some o→id<c.N:=h.live
 refine ⟨⟨by simp [H.new,Ctx.grow,h.next],fun id o' hi => ?_,fun id hi => ?_,fun id hi => ?_,fun i j Nj Lx hi hj he => ?_,fun id o' hi => ?_,fun id o9 nt hi hx => ?_,fun id o' hi hx => ?_⟩,
  ⟨e,by simp,fun b hb=>lH w O hb,fun b hb _=>by rw [iA]; simp [jg hb],fun id h1 h2 => ?_,rfl,rfl⟩⟩
 ·rw [iz] at hi
  by_cases I:id=σ.next
  ·rw [I,h.next]; simp [Ctx.grow]
  ·simp [I] at hi; exact gX (hold id o' hi) (by simp [Ctx.grow])
 ·simp only [kS] at hi
  by_cases I:id=c.N
  ·subst I; rw [bB]; simp
  ·rw [dx c _ _ _ (by omega)]
   have:=h.lF id (by omega)
   simp; omega
 ·simp only [kS] at hi
  by_cases I:id=c.N
  ·subst I; rw [bB,Bo]; simp [Ctx.grow]
  ·have J:id<c.N:=by omega
   have hb:=h.lF id J
   rw [dx c _ _ _ J,lH w O hb,←h.zz id J]
   simp [Ctx.grow,jg hb]
 ·rw [iz] at hi hj
  have key:∀i o',(if i=σ.next then some o else σ.tr.get i)=some o'→(i=c.N∧((c.grow w.heap.size base (objSize O)).ρ i).1=w.heap.size)∨(i<c.N∧(∃VL,σ.tr.get i=some VL)∧((c.grow w.heap.size base (objSize O)).ρ i).1=(c.ρ i).1∧(c.ρ i).1<w.heap.size):=by
   intro i o' hi
   by_cases I:i=σ.next
   ·left; rw [I,h.next,bB]; simp
   ·simp [I] at hi
    right
    have:=hold i o' hi
    exact ⟨this,⟨o',hi⟩,by rw [dx c _ _ _ this],h.lF i this⟩
  rcases key i Nj hi with ⟨a1,a2⟩ | ⟨a1,⟨_,a2⟩,a3,a4⟩ <;> rcases key j Lx hj with ⟨b1,b2⟩ | ⟨b1,⟨_,b2⟩,b3,b4⟩
  ·exact .inl (by omega)
  ·omega
  ·omega
  ·rw [ga c _ _ _ a1,ga c _ _ _ b1]; exact h.inj i j _ _ a2 b2 (by rw [←a3,←b3,he])
 ·rw [iz] at hi
  by_cases I:id=σ.next
  ·simp [I] at hi
   subst hi
   rw [I,h.next]
   exact ho
  ·simp [I] at hi
   have J:=hold id o' hi
   exact (h.obj id o' hi).later e J (by rw [iA]; simp [jg (h.lF id J)])
 ·rw [iz] at hi
  by_cases I:id=σ.next
  ·rw [I,h.next,bB]; exact yg
  ·simp [I] at hi
   rw [ga c _ _ _ (hold id _ hi)] at hx
   rw [dx c _ _ _ (hold id _ hi)]; exact h.one id o9 nt hi hx
 ·rw [iz] at hi
  by_cases I:id=σ.next
  ·rw [I,h.next,wX] at hx; cases hx
  ·simp [I] at hi
   rw [ga c _ _ _ (hold id _ hi)] at hx
   exact h.fx id o' hi hx
 ·simp only [kS] at h2
  have:id=c.N:=by omega
  subst this
  left; rw [bB]; exact aD _
theorem Rel.newRow {cs:List V}(h:Rel c σ w)(I:∀v∈cs,wf c v∧storable v=true)(e:TypeId)(more:List Value):
  Rel (c.grow w.heap.size 0 (cs.length+more.length)) (σ.new (.cells cs.length cs false)) (w.alloc (.cells (cs.map (conc c)++more).toArray e)) ∧
  cV c w (c.grow w.heap.size 0 (cs.length+more.length)) (w.alloc (.cells (cs.map (conc c)++more).toArray e)):=by
 have J:objSize (.cells (cs.map (conc c)++more).toArray e)=cs.length+more.length:=by simp [objSize]
 have:=h.new (.cells cs.length cs false) (.cells (cs.map (conc c)++more).toArray e) 0 rfl ?_
 ·rw [J] at this; exact this
 ·rw [J]
  have ex:=GV h 0 (cs.length+more.length)
  refine ⟨rfl,fun v hv=>⟨(cg ex v (I v hv).1).2,(I v hv).2⟩,(cs.map (conc c)++more).toArray,e,(0,0),by rw [bB,iA]; simp,by rw [bB]; simp,fun j v hv => ?_,rfl⟩
  rw [bB]
  obtain ⟨hj,tN⟩:=List.getElem?_eq_some_iff.1 hv
  rw [(cg ex v (I v (bC hv)).1).1]
  simp [jL,hj,tN]
theorem Rel.kill (h:Rel c σ w)(id:Nat): Rel c (σ.put id none) w:=by
 refine ⟨h.next,fun j o I => ?_,h.lF,h.zz,fun i j o o' hi I he => ?_,fun j o I => ?_,fun j o9 nt I hx => ?_,fun j o I hx => ?_⟩
 ·rw [cD] at I
  by_cases J:j=id
  ·simp [J] at I
  ·simp [J] at I; exact h.live j o I
 ·rw [cD] at hi I
  by_cases h1:i=id
  ·simp [h1] at hi
  ·by_cases h2:j=id
   ·simp [h2] at I
   ·simp [h1] at hi; simp [h2] at I; exact h.inj i j o o' hi I he
 ·rw [cD] at I
  by_cases J:j=id
  ·simp [J] at I
  ·simp [J] at I; exact h.obj j o I
 ·rw [cD] at I
  by_cases J:j=id
  ·simp [J] at I
  ·simp [J] at I; exact h.one j o9 nt I hx
 ·rw [cD] at I
  by_cases J:j=id
  ·simp [J] at I
  ·simp [J] at I; exact h.fx j o I hx
theorem Rel.tO {id:Nat}{es es':List (V×V×Nat)}{k k':Nat}(h:Rel c σ w)(hg:σ.tr.get id=some (.map es k))(jP:∀x∈es',wf c x.1∧wf c x.2.1):
  Rel c (σ.put id (some (.map es' k'))) { w with heap:=w.heap.setIfInBounds (c.ρ id).1 (.map (es'.map (cj c)).toArray k') } ∧
  cV c w c { w with heap:=w.heap.setIfInBounds (c.ρ id).1 (.map (es'.map (cj c)).toArray k') }:=by
 obtain ⟨hw,hb⟩:=h.obj id _ hg
 have bF:(c.ρ id).1<w.heap.size:=(Array.getElem?_eq_some_iff.1 hb).1
 have hX:=h.yz hg (by intro _ _ he; cases he)
 have get:∀i,({ w with heap:=w.heap.setIfInBounds (c.ρ id).1 (.map (es'.map (cj c)).toArray k') }:World).heap[i]?=if (c.ρ id).1=i then some (.map (es'.map (cj c)).toArray k') else w.heap[i]?:=by
  intro i; simp only [mR,bF,bO]
 have rows:∀i,rowSize { w with heap:=w.heap.setIfInBounds (c.ρ id).1 (.map (es'.map (cj c)).toArray k') } i=rowSize w i:=by
  intro i
  unfold rowSize
  rw [get]
  by_cases hi:(c.ρ id).1=i
  ·subst hi; simp [hb]
  ·simp [hi]
 refine ⟨⟨h.next,fun j o I => ?_,fun j I=>by simpa using h.lF j I,fun j I=>by rw [rows]; exact h.zz j I,fun i j o o' hi I he => ?_,fun j o I => ?_,fun j o9 nt I hx => ?_,fun j o I hx => ?_⟩,
  ⟨Ext.refl c,by simp,fun b _=>rows b,fun b _ hn => ?_,fun j h1 h2=>by omega,rfl,rfl⟩⟩
 ·rw [cD] at I
  by_cases J:j=id
  ·subst J; exact h.live j _ hg
  ·simp [J] at I; exact h.live j o I
 ·rw [cD] at hi I
  have pT:∃o,σ.tr.get i=some o:=by
   by_cases kR:i=id
   ·subst kR; exact ⟨_,hg⟩
   ·simp [kR] at hi; exact ⟨_,hi⟩
  have pU:∃o,σ.tr.get j=some o:=by
   by_cases kR:j=id
   ·subst kR; exact ⟨_,hg⟩
   ·simp [kR] at I; exact ⟨_,I⟩
  obtain ⟨_,pT⟩:=pT
  obtain ⟨_,pU⟩:=pU
  exact h.inj i j _ _ pT pU he
 ·rw [cD] at I
  by_cases J:j=id
  ·subst J
   simp at I
   subst I
   exact ⟨jP,by rw [get]; simp⟩
  ·simp [J] at I
   have dS:(c.ρ id).1≠(c.ρ j).1:=fun he=>J (h.wV I hg he.symm hX)
   have:=h.obj j o I
   cases o with
   | cells n' yB st' =>
    obtain ⟨a1,a2,D,e',qv,a3,a4⟩:=this
    exact ⟨a1,a2,D,e',qv,by rw [get]; simpa [dS] using a3,a4⟩
   | map es clock=>exact ⟨this.1,by rw [get]; simpa [dS] using this.2⟩
   | loop busy ay env ps as bd =>
    obtain ⟨fn,tmps,D,b1,b2⟩:=this
    exact ⟨fn,tmps,D,by rw [get]; simpa [dS] using b1,b2⟩
   | iter dh since last seen=>exact ⟨this.1,this.2.1,by rw [get]; simpa [dS] using this.2.2⟩
   | kg l pos=>exact ⟨this.1,this.2.1,by rw [get]; simpa [dS] using this.2.2⟩
 ·rw [cD] at I
  by_cases J:j=id
  ·simp [J] at I
  ·simp [J] at I; exact h.one j o9 nt I hx
 ·rw [cD] at I
  by_cases J:j=id
  ·rw [J,hX] at hx; cases hx
  ·simp [J] at I; exact h.fx j o I hx
 ·rw [get]
  have:(c.ρ id).1≠b:=fun he=>by have:=hn id (h.live id _ hg) he; rw [hX] at this; cases this
  simp [this]
theorem Rel.Km {id ay:Nat}{busy uU:Bool}{env:Env}{ps:List Nat}{as bd:Code}{fn D:Nat}{tmps:Array Value}(h:Rel c σ w)(hg:σ.tr.get id=some (.loop busy ay env ps as bd))
 (hb:w.heap[(c.ρ id).1]?=some (.loop ⟨cond busy .busy .ready,none,fn,tmps,ps.toArray,as,bd,D⟩))(jP:tmps.size=ay∧(∀t,tmps.getD t undef=conc c (Env.v env t))∧(∀t,wf c (Env.v env t))):
  Rel c (σ.put id (some (.loop uU ay env ps as bd))) { w with heap:=w.heap.setIfInBounds (c.ρ id).1 (.loop ⟨cond uU .busy .ready,none,fn,tmps,ps.toArray,as,bd,D⟩) } ∧
  cV c w c { w with heap:=w.heap.setIfInBounds (c.ρ id).1 (.loop ⟨cond uU .busy .ready,none,fn,tmps,ps.toArray,as,bd,D⟩) }:=by
 have bF:(c.ρ id).1<w.heap.size:=(Array.getElem?_eq_some_iff.1 hb).1
 have hX:=h.yz hg (by intro _ _ he; cases he)
 have get:∀i,({ w with heap:=w.heap.setIfInBounds (c.ρ id).1 (.loop ⟨cond uU .busy .ready,none,fn,tmps,ps.toArray,as,bd,D⟩) }:World).heap[i]?=if (c.ρ id).1=i then some (.loop ⟨cond uU .busy .ready,none,fn,tmps,ps.toArray,as,bd,D⟩) else w.heap[i]?:=by
  intro i; simp only [mR,bF,bO]
 have rows:∀i,rowSize { w with heap:=w.heap.setIfInBounds (c.ρ id).1 (.loop ⟨cond uU .busy .ready,none,fn,tmps,ps.toArray,as,bd,D⟩) } i=rowSize w i:=by
  intro i
  unfold rowSize
  rw [get]
  by_cases hi:(c.ρ id).1=i
  ·subst hi; simp [hb]
  ·simp [hi]
 refine ⟨⟨h.next,fun j o I => ?_,fun j I=>by simpa using h.lF j I,fun j I=>by rw [rows]; exact h.zz j I,fun i j o o' hi I he => ?_,fun j o I => ?_,fun j o9 nt I hx => ?_,fun j o I hx => ?_⟩,
  ⟨Ext.refl c,by simp,fun b _=>rows b,fun b _ hn => ?_,fun j h1 h2=>by omega,rfl,rfl⟩⟩
 ·rw [cD] at I
  by_cases J:j=id
  ·subst J; exact h.live j _ hg
  ·simp [J] at I; exact h.live j o I
 ·rw [cD] at hi I
  have pT:∃o,σ.tr.get i=some o:=by
   by_cases kR:i=id
   ·subst kR; exact ⟨_,hg⟩
   ·simp [kR] at hi; exact ⟨_,hi⟩
  have pU:∃o,σ.tr.get j=some o:=by
   by_cases kR:j=id
   ·subst kR; exact ⟨_,hg⟩
   ·simp [kR] at I; exact ⟨_,I⟩
  obtain ⟨_,pT⟩:=pT
  obtain ⟨_,pU⟩:=pU
  exact h.inj i j _ _ pT pU he
 ·rw [cD] at I
  by_cases J:j=id
  ·subst J
   simp at I
   subst I
   exact ⟨fn,tmps,D,by rw [get]; simp,jP⟩
  ·simp [J] at I
   have dS:(c.ρ id).1≠(c.ρ j).1:=fun he=>J (h.wV I hg he.symm hX)
   have:=h.obj j o I
   cases o with
   | cells n' yB st' =>
    obtain ⟨a1,a2,D,e',qv,a3,a4⟩:=this
    exact ⟨a1,a2,D,e',qv,by rw [get]; simpa [dS] using a3,a4⟩
   | map es clock=>exact ⟨this.1,by rw [get]; simpa [dS] using this.2⟩
   | loop busy ay env ps as bd =>
    obtain ⟨fn,tmps,D,b1,b2⟩:=this
    exact ⟨fn,tmps,D,by rw [get]; simpa [dS] using b1,b2⟩
   | iter dh since last seen=>exact ⟨this.1,this.2.1,by rw [get]; simpa [dS] using this.2.2⟩
   | kg l pos=>exact ⟨this.1,this.2.1,by rw [get]; simpa [dS] using this.2.2⟩
 ·rw [cD] at I
  by_cases J:j=id
  ·simp [J] at I
  ·simp [J] at I; exact h.one j o9 nt I hx
 ·rw [cD] at I
  by_cases J:j=id
  ·rw [J,hX] at hx; cases hx
  ·simp [J] at I; exact h.fx j o I hx
 ·rw [get]
  have:(c.ρ id).1≠b:=fun he=>by have:=hn id (h.live id _ hg) he; rw [hX] at this; cases this
  simp [this]
theorem Rel.setIter {id dh since last last':Nat}{seen seen':List Nat}(h:Rel c σ w)(hg:σ.tr.get id=some (.iter dh since last seen)):
  Rel c (σ.put id (some (.iter dh since last' seen'))) { w with heap:=w.heap.setIfInBounds (c.ρ id).1 (.mapIter (some (c.ρ dh).1) since seen'.toArray last') } ∧
  cV c w c { w with heap:=w.heap.setIfInBounds (c.ρ id).1 (.mapIter (some (c.ρ dh).1) since seen'.toArray last') }:=by
 obtain ⟨GW,sr,hb⟩:=h.obj id _ hg
 have bF:(c.ρ id).1<w.heap.size:=(Array.getElem?_eq_some_iff.1 hb).1
 have hX:=h.yz hg (by intro _ _ he; cases he)
 have get:∀i,({ w with heap:=w.heap.setIfInBounds (c.ρ id).1 (.mapIter (some (c.ρ dh).1) since seen'.toArray last') }:World).heap[i]?=if (c.ρ id).1=i then some (.mapIter (some (c.ρ dh).1) since seen'.toArray last') else w.heap[i]?:=by
  intro i; simp only [mR,bF,bO]
 have rows:∀i,rowSize { w with heap:=w.heap.setIfInBounds (c.ρ id).1 (.mapIter (some (c.ρ dh).1) since seen'.toArray last') } i=rowSize w i:=by
  intro i
  unfold rowSize
  rw [get]
  by_cases hi:(c.ρ id).1=i
  ·subst hi; simp [hb]
  ·simp [hi]
 refine ⟨⟨h.next,fun j o I => ?_,fun j I=>by simpa using h.lF j I,fun j I=>by rw [rows]; exact h.zz j I,fun i j o o' hi I he => ?_,fun j o I => ?_,fun j o9 nt I hx => ?_,fun j o I hx => ?_⟩,
  ⟨Ext.refl c,by simp,fun b _=>rows b,fun b _ hn => ?_,fun j h1 h2=>by omega,rfl,rfl⟩⟩
 ·rw [cD] at I
  by_cases J:j=id
  ·subst J; exact h.live j _ hg
  ·simp [J] at I; exact h.live j o I
 ·rw [cD] at hi I
  have pT:∃o,σ.tr.get i=some o:=by
   by_cases kR:i=id
   ·subst kR; exact ⟨_,hg⟩
   ·simp [kR] at hi; exact ⟨_,hi⟩
  have pU:∃o,σ.tr.get j=some o:=by
   by_cases kR:j=id
   ·subst kR; exact ⟨_,hg⟩
   ·simp [kR] at I; exact ⟨_,I⟩
  obtain ⟨_,pT⟩:=pT
  obtain ⟨_,pU⟩:=pU
  exact h.inj i j _ _ pT pU he
 ·rw [cD] at I
  by_cases J:j=id
  ·subst J
   simp at I
   subst I
   exact ⟨GW,sr,by rw [get]; simp⟩
  ·simp [J] at I
   have dS:(c.ρ id).1≠(c.ρ j).1:=fun he=>J (h.wV I hg he.symm hX)
   have:=h.obj j o I
   cases o with
   | cells n' yB st' =>
    obtain ⟨a1,a2,D,e',qv,a3,a4⟩:=this
    exact ⟨a1,a2,D,e',qv,by rw [get]; simpa [dS] using a3,a4⟩
   | map es clock=>exact ⟨this.1,by rw [get]; simpa [dS] using this.2⟩
   | loop busy ay env ps as bd =>
    obtain ⟨fn,tmps,D,b1,b2⟩:=this
    exact ⟨fn,tmps,D,by rw [get]; simpa [dS] using b1,b2⟩
   | iter dh since last seen=>exact ⟨this.1,this.2.1,by rw [get]; simpa [dS] using this.2.2⟩
   | kg l pos=>exact ⟨this.1,this.2.1,by rw [get]; simpa [dS] using this.2.2⟩
 ·rw [cD] at I
  by_cases J:j=id
  ·simp [J] at I
  ·simp [J] at I; exact h.one j o9 nt I hx
 ·rw [cD] at I
  by_cases J:j=id
  ·rw [J,hX] at hx; cases hx
  ·simp [J] at I; exact h.fx j o I hx
 ·rw [get]
  have:(c.ρ id).1≠b:=fun he=>by have:=hn id (h.live id _ hg) he; rw [hX] at this; cases this
  simp [this]
theorem Rel.VM {id pos pos':Nat}{l:List Nat}(h:Rel c σ w)(hg:σ.tr.get id=some (.kg l pos)):
  Rel c (σ.put id (some (.kg l pos'))) { w with heap:=w.heap.setIfInBounds (c.ρ id).1 (.stringIter ⟨(l.map UInt8.ofNat).toArray⟩ pos') } ∧
  cV c w c { w with heap:=w.heap.setIfInBounds (c.ρ id).1 (.stringIter ⟨(l.map UInt8.ofNat).toArray⟩ pos') }:=by
 obtain ⟨GW,sr,hb⟩:=h.obj id _ hg
 have bF:(c.ρ id).1<w.heap.size:=(Array.getElem?_eq_some_iff.1 hb).1
 have hX:=h.yz hg (by intro _ _ he; cases he)
 have get:∀i,({ w with heap:=w.heap.setIfInBounds (c.ρ id).1 (.stringIter ⟨(l.map UInt8.ofNat).toArray⟩ pos') }:World).heap[i]?=if (c.ρ id).1=i then some (.stringIter ⟨(l.map UInt8.ofNat).toArray⟩ pos') else w.heap[i]?:=by
  intro i; simp only [mR,bF,bO]
 have rows:∀i,rowSize { w with heap:=w.heap.setIfInBounds (c.ρ id).1 (.stringIter ⟨(l.map UInt8.ofNat).toArray⟩ pos') } i=rowSize w i:=by
  intro i
  unfold rowSize
  rw [get]
  by_cases hi:(c.ρ id).1=i
  ·subst hi; simp [hb]
  ·simp [hi]
 refine ⟨⟨h.next,fun j o I => ?_,fun j I=>by simpa using h.lF j I,fun j I=>by rw [rows]; exact h.zz j I,fun i j o o' hi I he => ?_,fun j o I => ?_,fun j o9 nt I hx => ?_,fun j o I hx => ?_⟩,
  ⟨Ext.refl c,by simp,fun b _=>rows b,fun b _ hn => ?_,fun j h1 h2=>by omega,rfl,rfl⟩⟩
 ·rw [cD] at I
  by_cases J:j=id
  ·subst J; exact h.live j _ hg
  ·simp [J] at I; exact h.live j o I
 ·rw [cD] at hi I
  have pT:∃o,σ.tr.get i=some o:=by
   by_cases kR:i=id
   ·subst kR; exact ⟨_,hg⟩
   ·simp [kR] at hi; exact ⟨_,hi⟩
  have pU:∃o,σ.tr.get j=some o:=by
   by_cases kR:j=id
   ·subst kR; exact ⟨_,hg⟩
   ·simp [kR] at I; exact ⟨_,I⟩
  obtain ⟨_,pT⟩:=pT
  obtain ⟨_,pU⟩:=pU
  exact h.inj i j _ _ pT pU he
 ·rw [cD] at I
  by_cases J:j=id
  ·subst J
   simp at I
   subst I
   exact ⟨GW,sr,by rw [get]; simp⟩
  ·simp [J] at I
   have dS:(c.ρ id).1≠(c.ρ j).1:=fun he=>J (h.wV I hg he.symm hX)
   have:=h.obj j o I
   cases o with
   | cells n' yB st' =>
    obtain ⟨a1,a2,D,e',qv,a3,a4⟩:=this
    exact ⟨a1,a2,D,e',qv,by rw [get]; simpa [dS] using a3,a4⟩
   | map es clock=>exact ⟨this.1,by rw [get]; simpa [dS] using this.2⟩
   | loop busy ay env ps as bd =>
    obtain ⟨fn,tmps,D,b1,b2⟩:=this
    exact ⟨fn,tmps,D,by rw [get]; simpa [dS] using b1,b2⟩
   | iter dh since last seen=>exact ⟨this.1,this.2.1,by rw [get]; simpa [dS] using this.2.2⟩
   | kg l pos=>exact ⟨this.1,this.2.1,by rw [get]; simpa [dS] using this.2.2⟩
 ·rw [cD] at I
  by_cases J:j=id
  ·simp [J] at I
  ·simp [J] at I; exact h.one j o9 nt I hx
 ·rw [cD] at I
  by_cases J:j=id
  ·rw [J,hX] at hx; cases hx
  ·simp [J] at I; exact h.fx j o I hx
 ·rw [get]
  have:(c.ρ id).1≠b:=fun he=>by have:=hn id (h.live id _ hg) he; rw [hX] at this; cases this
  simp [this]
theorem j6 {b:Nat}{o:Go.Obj}(h:w.heap[b]?=some o)(I:∀C e f,o≠.cells C e f): (getObj b).run P w=.ok o w:=by
 simp only [getObj,Sem.run,h]
theorem kT {b:Nat}{o o':Go.Obj}(h:w.heap[b]?=some o)(I:∀C e f,o≠.cells C e f): (setObj b o').run P w=.ok () { w with heap:=w.heap.setIfInBounds b o' }:=by
 simp only [setObj,Sem.run,h]
end
end Go.Proofs.YtefepnnfphdkpaaGreat.Am
