/- ChainNeeds: a part of its proof; conditions: its statement's. -/
import Derived.Test.YtefepnnfphdkpaaGreatB02
namespace Go.Proofs.YtefepnnfphdkpaaGreat.Am
open Go
section
variable {P:Program} {c:Ctx} {σ:H} {w:World}
theorem b9 {t:TypeId}{k:Nat}(h:br P t=some k)(w:World): (sizeOf t).run P w=.ok k w:=by
 unfold br at h
 cases hi:P.info? t with
 | none=>simp [hi] at h
 | some i=>simp [hi] at h; simp [sizeOf,typeInfo,hi,h]
theorem oF {t:TypeId}{b:Bool}(h:b6 P t=some b)(w:World): (isAgg t).run P w=.ok b w:=by
 unfold b6 at h
 cases hu:P.underlying t with
 | none=>simp [hu] at h
 | some d=>cases d <;> simp [hu] at h <;> subst h <;> simp [isAgg,run_underlying hu]
theorem v_ (s:ByteArray): (⟨((s.data.toList.map (·.toNat)).map UInt8.ofNat).toArray⟩:ByteArray)=s:=by
 have:(s.data.toList.map (·.toNat)).map UInt8.ofNat=s.data.toList:=by
  rw [vp]
  have:(UInt8.ofNat∘fun (x:UInt8)=>x.toNat)=id:=by funext x; simp
  rw [this]; simp
 rw [this]
theorem nK {x:Value}{v:V}(h:ofScalar x=some v)(c:Ctx): conc c v=x∧wf c v∧v.cells=[v]:=by
 unfold ofScalar at h
 split at h <;> simp only [aj,reduceCtorEq] at h
 all_goals subst h
 all_goals refine ⟨?_,?_,by simp [V.cells]⟩
 all_goals first
  | (simp only [conc]; done)
  | (simp only [wf]; done)
  | (simp only [conc]; rw [v_])
  | (simp only [wf,kY]; rintro x ⟨y,_,rfl⟩; exact y.toNat_lt)
theorem DF {l:List Value}{m:List V}(h:mapO ofScalar l=some m)(c:Ctx): m.map (conc c)=l∧(∀v∈m,wf c v):=by
 induction l generalizing m with
 | nil=>simp [mapO] at h; subst h; simp
 | cons x l ih =>
  simp only [mapO] at h
  cases I:ofScalar x with
  | none=>simp [I] at h
  | some y =>
   cases J:mapO ofScalar l with
   | none=>simp [I,J] at h
   | some m' =>
    simp [I,J] at h
    subst h
    have h1:=nK I c
    have h2:=ih J
    exact ⟨by simp [h1.1,h2.1],by simpa using ⟨h1.2.1,h2.2⟩⟩
theorem oG {x:Value}{v:V}(h:ofValue x=some v)(c:Ctx): conc c v=x∧wf c v:=by
 unfold ofValue at h
 split at h
 ·rename_i cs
  cases hm:mapO ofScalar cs.toList with
  | none=>simp [hm] at h
  | some m =>
   simp [hm] at h
   subst h
   have I:=DF hm c
   refine ⟨?_,?_⟩
   ·simp only [conc,eu,I.1]
   ·simp only [wf,eF]; exact I.2
 ·rename_i J
  split at h
  ·rename_i hl
   simp at h; subst h
   have:J = #[]:=by simpa using hl
   subst this
   exact ⟨by simp [conc,concL],by simp [wf,dS]⟩
  ·simp at h
 ·exact ⟨(nK h c).1,(nK h c).2.1⟩
theorem ep {t:TypeId}{z:V}(h:zeroT P t=some z)(c:Ctx)(w:World): (zeroValue t).run P w=.ok (conc c z) w∧wf c z:=by
 unfold zeroT at h
 cases hi:P.info? t with
 | none=>simp [hi] at h
 | some i =>
  cases I:i.zero with
  | none=>simp [hi,I] at h
  | some x =>
   simp only [hi,I,bR] at h
   have h0:ofValue x=some z:=by
    split at h
    ·simp at h
    ·exact h
   have J:=oG h0 c
   exact ⟨by simp [zeroValue,typeInfo,hi,I,J.1],J.2⟩
theorem oA {x:Value}{v:V}(h:ofScalar x=some v): storable v=true:=by
 unfold ofScalar at h
 split at h <;> simp only [aj,reduceCtorEq] at h
 all_goals subst h; rfl
theorem jD {t:TypeId}{z:V}(h:zeroT P t=some z): ∀v∈z.cells,storable v=true:=by
 unfold zeroT at h
 split at h
 ·rename_i x hx
  split at h
  ·simp at h
  ·rename_i hn
   unfold ofValue at h
   split at h
   ·rename_i cs
    cases hm:mapO ofScalar cs.toList with
    | none=>simp [hm] at h
    | some m =>
     simp [hm] at h
     subst h
     have:∀(l:List Value) (m:List V),mapO ofScalar l=some m→∀v∈m,storable v=true:=by
      intro l
      induction l with
      | nil=>intro m h; simp [mapO] at h; subst h; simp
      | cons a l ih =>
       intro m h
       simp only [mapO] at h
       cases J:ofScalar a with
       | none=>simp [J] at h
       | some b =>
        cases h2:mapO ofScalar l with
        | none=>simp [J,h2] at h
        | some m' =>
         simp [J,h2] at h
         subst h
         intro v I
         rcases List.mem_cons.1 I with rfl | I
         ·exact oA J
         ·exact ih m' h2 v I
     exact this _ _ hm
   ·rename_i vs
    split at h
    ·rename_i Of
     simp only [aj] at h
     exact absurd (by simp [ofValue,Of]) (hn [])
    ·simp at h
   ·intro v I
    have J:=(nK h ⟨fun _=>(0,0),fun _=>0,0,fun _=>false⟩).2.2
    rw [J] at I
    simp only [rG] at I
    subst I
    exact oA h
 ·simp at h
theorem sC (c:Ctx)(v:V): (conc c v).cells.toList=v.cells.map (conc c):=by
 cases v with
 | agg l=>simp [conc,Value.cells,V.cells,eu]
 | sl id off len cap=>cases cap <;> simp [conc,Value.cells,V.cells]
 | _=>simp [conc,Value.cells,V.cells]
theorem dN (c:Ctx)(v:V): (conc c v).cells=(v.cells.map (conc c)).toArray:=by
 rw [←sC]
theorem iH {v:V}(h:wf c v): ∀x∈v.cells,wf c x:=by
 cases v with
 | agg l=>simpa [V.cells,wf,eF] using h
 | _=>simpa [V.cells] using h
theorem tQ {env:Env}{n:Nat}{a:Act}(he:cU c env n a){x:Operand}{v:V}(h:evO env x=some v): a.eval x=conc c v∧wf c v:=by
 cases x with
 | tmp t=>simp [evO] at h; subst h; exact ⟨by simpa [Act.eval] using he.val t,he.tj t⟩
 | const k=>have:=oG (show ofValue k=some v from h) c; exact ⟨by simp [Act.eval,this.1],this.2⟩
 | global g=>simp [evO] at h
 | func f=>simp [evO] at h; subst h; exact ⟨by simp [Act.eval,conc,concL],by simp [wf,dS]⟩
def dU (c:Ctx)(id off:Nat): Addr:=⟨(c.ρ id).1,(c.ρ id).2+off,none⟩
theorem pE (id off j:Nat): (dU c id off).add j=dU c id (off+j):=by
 simp only [dU,Addr.add_lit,iA]
theorem cell_of {id n:Nat}{cs:List V}{st:Bool}(h:Rel c σ w)(I:σ.tr.get id=some (.cells n cs st)){j:Nat}{v:V}(J:cs[j]?=some v):
  w.cell? (dU c id j)=some (conc c v):=by
 obtain ⟨_,_,C,e,fz,hb,_,hc,_⟩:=h.obj id _ I
 simp [World.cell?,dU,hb,hc j v J]
theorem pQ {id off k:Nat}{vs:List V}(h:Rel c σ w)(I:rdN σ id off k=some vs):
  vs.length=k∧(∀v∈vs,wf c v∧storable v=true)∧∀j x,(vs.map (conc c))[j]?=some x→w.cell? ((dU c id off).add j)=some x:=by
 unfold rdN at I
 split at I
 ·rename_i n cs st hg
  obtain ⟨hn,jM,_⟩:=h.obj id _ hg
  cases hb:Nat.ble (off+k) n with
  | false=>simp [hb] at I
  | true =>
   have hle:=aE.1 hb
   simp only [hb,af,aj] at I
   have Of:vs=(cs.drop off).take k:=by
    rw [←I]
    cases hq:(Nat.beq off 0&&Nat.beq k n) with
    | false=>rfl
    | true =>
     simp only [aG] at hq
     have h0:=beq_iff.1 hq.1
     have h1:=beq_iff.1 hq.2
     subst h0; simp [h1,hn]
   subst Of
   refine ⟨by simp; omega,fun v J=>jM v (gw (fH J)),fun j x hx => ?_⟩
   rw [pE]
   simp only [j9,Option.map_eq_some_iff] at hx
   obtain ⟨v,J,rfl⟩:=hx
   have tq:cs[off+j]?=some v:=by
    rw [jx] at J
    split at J
    ·rwa [jy] at J
    ·simp at J
   exact cell_of h hg tq
 ·simp at I
theorem z8 {id off k:Nat}{I:List V}(h:Rel c σ w)(J:rdN σ id off k=some I):
  (loadCells (dU c id off) k).run P w=.ok (I.map (conc c)).toArray w:=by
 obtain ⟨hl,_,hc⟩:=pQ h J
 have:=run_loadCells_list (P:=P) (w:=w) (dU c id off) (I.map (conc c)) hc
 rwa [eP,hl] at this
theorem Og {id off:Nat}{v:V}(h:Rel c σ w)(I:th σ id off=some v): w.cell? (dU c id off)=some (conc c v)∧wf c v:=by
 unfold th at I
 split at I
 ·rename_i n cs st hg
  rw [fh] at I
  obtain ⟨_,J,_⟩:=h.obj id _ hg
  exact ⟨cell_of h hg I,(J v (bh I)).1⟩
 ·simp at I
theorem BY {t:TypeId}{a v:V}(h:Rel c σ w)(I:loadV P σ t a=some v):
  (Instr.loadAt t (conc c a)).run P w=.ok (conc c v) w∧wf c v:=by
 unfold loadV at I
 split at I
 ·rename_i id off
  have ha:conc c (.ptr id off)=.pointer (some (dU c id off)):=by simp [conc,dU]
  rw [ha]
  split at I
  ·rename_i hg
   split at I
   ·rename_i k hk
    cases J:rdN σ id off k with
    | none=>simp [J] at I
    | some vs =>
     simp [J] at I
     subst I
     have h1:=z8 (P:=P) h J
     have h2:=pQ h J
     refine ⟨?_,by simp only [wf,eF]; exact fun v hv=>(h2.2.1 v hv).1⟩
     simp [Instr.loadAt,Instr.sureAddr,loadVar,oF hg,b9 hk,h1,conc,eu]
   ·simp at I
  ·rename_i hg
   have h1:=Og h I
   exact ⟨by simp [Instr.loadAt,Instr.sureAddr,loadVar,oF hg,h1.1],h1.2⟩
  ·simp at I
 ·simp at I
def World.setRow (w:World)(b:Nat)(C:Array Value)(e:TypeId)(I:Nat×Nat): World:={ w with heap:=w.heap.setIfInBounds b (.cells C e I) }
theorem DG {b:Nat}{C:Array Value}{e:TypeId}{fz:Nat×Nat}(hb:w.heap[b]?=some (.cells C e fz))(p:Nat)(v:Value):
  w.setCell ⟨b,p,none⟩ v=World.setRow w b (C.setIfInBounds p v) e fz:=by
 unfold World.setCell World.setRow
 congr 1
 apply m_
 intro i
 rw [y9,iR]
 obtain ⟨I,J⟩:=Array.getElem?_eq_some_iff.1 hb
 by_cases hi:b=i
 ·subst hi
  simp [I,J]
 ·simp [hi]
theorem fA {b:Nat}{C:Array Value}{e:TypeId}{I:Nat×Nat}(J:b<w.heap.size)(i:Nat):
  (World.setRow w b C e I).heap[i]?=if b=i then some (.cells C e I) else w.heap[i]?:=by
 unfold World.setRow
 simp only [iR,J,bz]
theorem setRow_setRow {b:Nat}{C D:Array Value}{e:TypeId}{I:Nat×Nat}:
  World.setRow (World.setRow w b C e I) b D e I=World.setRow w b D e I:=by
 unfold World.setRow
 simp
theorem rU : ∀(I:List Value) (i:Nat) (w:World) (b p:Nat) (C:Array Value) (e:TypeId) (J:Nat×Nat),
  w.heap[b]?=some (.cells C e J)→(∀j,j<C.size→¬ (J.1≤j∧j<J.2))→p+i+I.length≤C.size→(∀v∈I,v.oneCell'=true) →
  ∃C',(storeCells ⟨b,p,none⟩ I i).run P w=.ok () (World.setRow w b C' e J)∧C'.size=C.size ∧
   ∀j,C'[j]?=if p+i≤j∧j<p+i+I.length then I[j-(p+i)]? else C[j]?:=by
 intro I
 induction I with
 | nil =>
  intro i w b p C e J hb _ _ _
  refine ⟨C,?_,rfl,fun j=>by simp; omega⟩
  have:World.setRow w b C e J=w:=by
   unfold World.setRow
   congr 1
   apply m_
   intro k
   rw [iR]
   obtain ⟨bk,l_⟩:=Array.getElem?_eq_some_iff.1 hb
   by_cases hk:b=k
   ·subst hk; simp [bk,l_]
   ·simp [hk]
  simp [storeCells,this]
 | cons v I ih =>
  intro i w b p C e J hb hf hl ho
  have bk:b<w.heap.size:=(Array.getElem?_eq_some_iff.1 hb).1
  simp only [aQ] at hl
  have vA:w.cell? ⟨b,p+i,none⟩=some (C[p+i]'(by omega)):=by
   simp [World.cell?,hb]
  have Oh:w.frozen? ⟨b,p+i,none⟩=false:=by
   have:=hf (p+i) (by omega)
   simp only [World.frozen?,hb]
   simpa using this
  have oH:(store (Addr.add ⟨b,p,none⟩ i) v).run P w=.ok () (World.setRow w b (C.setIfInBounds (p+i) v) e J):=by
   rw [Addr.add_lit,run_store P w _ v _ (ho v (by simp)),vA]
   simp only [Oh,dI,bC]
   rw [DG hb]
  obtain ⟨C',h1,h2,h3⟩:=ih (i+1) (World.setRow w b (C.setIfInBounds (p+i) v) e J) b p (C.setIfInBounds (p+i) v) e J
   (by rw [fA bk]; simp) (by simpa using hf) (by simp; omega) (fun x hx=>ho x (by simp [hx]))
  refine ⟨C',?_,by simpa using h2,fun j => ?_⟩
  ·simp only [storeCells,Sem.run_bind,oH,Result.andThen_ok,h1,setRow_setRow]
  ·rw [h3 j]
   by_cases hj:j=p+i
   ·subst hj
    have e1:¬ (p+(i+1)≤p+i∧p+i<p+(i+1)+I.length):=by omega
    have e2:p+i≤p+i∧p+i<p+i+(v::I).length:=by simp
    rw [ai e1,ax e2]
    have:p+i<C.size:=by omega
    simp [this]
   ·by_cases Oi:p+(i+1)≤j∧j<p+(i+1)+I.length
    ·have e2:p+i≤j∧j<p+i+(v::I).length:=by simp; omega
     rw [ax Oi,ax e2]
     have:j-(p+i)=(j-(p+(i+1)))+1:=by omega
     rw [this]; simp
    ·have e2:¬ (p+i≤j∧j<p+i+(v::I).length):=by simp; omega
     rw [ai Oi,ai e2]
     simp [iD hj]
theorem wg {v:V}(h:storable v=true): (conc c v).oneCell'=true:=by
 cases v with
 | sl id off len cap=>cases cap <;> simp [conc,Value.oneCell']
 | agg l=>simp [storable] at h
 | aX l=>simp [storable] at h
 | _=>simp [conc,Value.oneCell']
theorem FzOk.clear {I:Nat×Nat}{n:Nat}(h:FzOk false I n): ∀j,j<n→¬ (I.1≤j∧j<I.2):=by
 intro j J
 simp [FzOk] at h; subst h; simp
theorem bY (h:H)(id:Nat)(o:Option Obj)(j:Nat): (h.put id o).tr.get j=if j=id then o else h.tr.get j:=by
 simp [H.put,aJ]
theorem gm (h:H)(o:Obj)(j:Nat): (h.new o).tr.get j=if j=h.next then some o else h.tr.get j:=by
 simp [H.new,aJ]
theorem k9 {b:Nat}{C C':Array Value}{e:TypeId}{fz m0:Nat×Nat}(J:w.heap[b]?=some (.cells C e fz))(hs:C'.size=C.size)(i:Nat):
  rowSize (World.setRow w b C' e m0) i=rowSize w i:=by
 have I:b<w.heap.size:=(Array.getElem?_eq_some_iff.1 J).1
 unfold rowSize
 rw [fA I]
 by_cases hi:b=i
 ·subst hi; simp [J,hs]
 ·simp [hi]
theorem Rel.Eu {id n:Nat}{cs cs':List V}{st':Bool}{C C':Array Value}{e:TypeId}{fz m0:Nat×Nat}(h:Rel c σ w)(hg:σ.tr.get id=some (.cells n cs false))
 (hb:w.heap[(c.ρ id).1]?=some (.cells C e fz))(hs:C'.size=C.size)(hl:n=cs'.length)(jM:∀v∈cs',wf c v∧storable v=true)
 (hv:∀j v,cs'[j]?=some v→C'[(c.ρ id).2+j]?=some (conc c v))(FN:FzOk st' m0 C.size):
  Rel c (σ.put id (some (.cells n cs' st'))) (World.setRow w (c.ρ id).1 C' e m0)∧bU c w c (World.setRow w (c.ρ id).1 C' e m0):=by
 have bk:(c.ρ id).1<w.heap.size:=(Array.getElem?_eq_some_iff.1 hb).1
 have hX:=h.sB hg (by intro _ _ he; cases he)
 obtain ⟨hn,hw,Wj,Oj,Ub,Ol,hle,hc,_⟩:=h.obj id _ hg
 rw [hb] at Ol
 simp only [aj,Go.Obj.cells.injEq] at Ol
 obtain ⟨rfl,rfl,rfl⟩:=Ol
 refine ⟨⟨h.next,fun j o I => ?_,fun j I=>by simpa [World.setRow] using h.iZ j I,fun j I=>by rw [k9 hb hs]; exact h.zz j I,fun i j o o' hi I he => ?_,fun j o I => ?_,fun j mC j3 I hx => ?_,fun j o I hx => ?_⟩,
  ⟨Ext.refl c,by simp [World.setRow],fun b _=>k9 hb hs b,fun b _ hn => ?_,fun j h1 h2=>by omega,rfl,rfl⟩⟩
 ·rw [bY] at I
  by_cases J:j=id
  ·subst J; exact h.live j _ hg
  ·simp [J] at I; exact h.live j o I
 ·rw [bY] at hi I
  have mD:∃o,σ.tr.get i=some o:=by
   by_cases i_:i=id
   ·subst i_; exact ⟨_,hg⟩
   ·simp [i_] at hi; exact ⟨_,hi⟩
  have mE:∃o,σ.tr.get j=some o:=by
   by_cases i_:j=id
   ·subst i_; exact ⟨_,hg⟩
   ·simp [i_] at I; exact ⟨_,I⟩
  obtain ⟨_,mD⟩:=mD
  obtain ⟨_,mE⟩:=mE
  exact h.inj i j _ _ mD mE he
 ·rw [bY] at I
  by_cases J:j=id
  ·subst J
   simp at I
   subst I
   exact ⟨hl,jM,C',e,m0,by rw [fA bk]; simp,by rw [hs]; exact hle,hv,by rw [hs]; exact FN⟩
  ·simp [J] at I
   have dg:(c.ρ id).1≠(c.ρ j).1:=fun he=>J (h.qW I hg he.symm hX)
   have:=h.obj j o I
   cases o with
   | cells n' tR st' =>
    obtain ⟨a1,a2,D,e',m0,a3,a4⟩:=this
    exact ⟨a1,a2,D,e',m0,by rw [fA bk]; simpa [dg] using a3,a4⟩
   | map es clock=>exact ⟨this.1,by rw [fA bk]; simpa [dg] using this.2⟩
   | loop busy au env ps as bd =>
    obtain ⟨fn,tmps,D,b1,b2⟩:=this
    exact ⟨fn,tmps,D,by rw [fA bk]; simpa [dg] using b1,b2⟩
   | iter iu since last seen=>exact ⟨this.1,this.2.1,by rw [fA bk]; simpa [dg] using this.2.2⟩
   | iE l pos=>exact ⟨this.1,this.2.1,by rw [fA bk]; simpa [dg] using this.2.2⟩
 ·rw [bY] at I
  by_cases J:j=id
  ·subst J
   simp at I
   rw [I.1] at hg
   exact h.one j _ _ hg hx
  ·simp [J] at I
   exact h.one j mC j3 I hx
 ·rw [bY] at I
  by_cases J:j=id
  ·rw [J,hX] at hx; cases hx
  ·simp [J] at I; exact h.fx j o I hx
 ·rw [fA bk]
  have:(c.ρ id).1≠b:=fun he=>by have:=hn id (h.live id _ hg) he; rw [hX] at this; cases this
  simp [this]
theorem Rel.setRow {id n:Nat}{cs cs':List V}{C C':Array Value}{e:TypeId}{J:Nat×Nat}(h:Rel c σ w)(hg:σ.tr.get id=some (.cells n cs false))
 (hb:w.heap[(c.ρ id).1]?=some (.cells C e J))(hs:C'.size=C.size)(hl:n=cs'.length)(jM:∀v∈cs',wf c v∧storable v=true)
 (hv:∀j v,cs'[j]?=some v→C'[(c.ρ id).2+j]?=some (conc c v)):
  Rel c (σ.put id (some (.cells n cs' false))) (World.setRow w (c.ρ id).1 C' e J)∧bU c w c (World.setRow w (c.ρ id).1 C' e J):=by
 refine h.Eu hg hb hs hl jM hv ?_
 obtain ⟨_,_,Wj,Oj,Ub,I,_,_,rV⟩:=h.obj id _ hg
 rw [hb] at I
 simp only [aj,Go.Obj.cells.injEq] at I
 obtain ⟨rfl,rfl,rfl⟩:=I
 exact rV
theorem tS {id off:Nat}{J:List V}{dH:H}(h:Rel c σ w)(hr:wrN σ id off J=some dH)(jM:∀v∈J,wf c v∧storable v=true):
  ∃w',(storeCells (dU c id off) (J.map (conc c))).run P w=.ok () w'∧Rel c dH w'∧bU c w c w':=by
 unfold wrN at hr
 split at hr
 ·rename_i n cs hg
  obtain ⟨hn,hw,C,e,fz,hb,hle,hc,rV⟩:=h.obj id _ hg
  cases hq:Nat.ble (off+J.length) n with
  | false=>simp [hq] at hr
  | true =>
   have Om:=aE.1 hq
   simp only [hq,af,aj] at hr
   have jN:(cond (Nat.beq off 0&&Nat.beq J.length n) J (cs.take off++(J++cs.drop (off+J.length))))=cs.take off++(J++cs.drop (off+J.length)):=by
    cases mF:(Nat.beq off 0&&Nat.beq J.length n) with
    | false=>rfl
    | true =>
     simp only [aG] at mF
     have h0:=beq_iff.1 mF.1
     have h1:=beq_iff.1 mF.2
     subst h0
     simp [h1,hn]
   rw [jN] at hr
   subst hr
   obtain ⟨C',h1,h2,h3⟩:=rU (P:=P) (J.map (conc c)) 0 w (c.ρ id).1 ((c.ρ id).2+off) C e fz hb rV.clear (by simp; omega)
    (by simp only [kY]; rintro _ ⟨v,I,rfl⟩; exact wg (jM v I).2)
   refine ⟨_,h1,?_⟩
   refine h.setRow hg hb h2 (by simp; omega) ?_ ?_
   ·intro v I
    simp only [ng] at I
    rcases I with I | I | I
    ·exact hw v (fH I)
    ·exact jM v I
    ·exact hw v (gw I)
   ·intro j v I
    rw [h3]
    by_cases h4:j<off
    ·rw [iS (by simp; omega),jx,ax h4] at I
     rw [ai (by omega)]
     exact hc j v I
    ·rw [kT (by simp; omega)] at I
     have hlen:(cs.take off).length=off:=by simp; omega
     rw [hlen] at I
     by_cases h5:j<off+J.length
     ·rw [iS (by omega)] at I
      rw [ax (by simp; omega)]
      rw [j9,show (c.ρ id).2+j-((c.ρ id).2+off+0)=j-off from by omega,I]
      rfl
     ·rw [kT (by omega),jy] at I
      rw [ai (by simp; omega)]
      refine hc j v ?_
      rw [←I]; congr 1; omega
 ·simp at hr
theorem Hu {t:TypeId}{a v:V}{J:H}(h:Rel c σ w)(I:fM P σ t a v=some J)(hv:wf c v):
  ∃w',(Instr.storeAt t (conc c a) (conc c v)).run P w=.ok () w'∧Rel c J w'∧bU c w c w':=by
 unfold fM at I
 split at I
 ·rename_i id off
  split at I
  ·rename_i k hk
   cases hq:(Nat.beq v.cells.length k&&v.cells.all storable) with
   | false=>simp [hq] at I
   | true =>
    simp only [hq,af] at I
    simp only [aG] at hq
    have hlen:=beq_iff.1 hq.1
    obtain ⟨w',h1,h2,h3⟩:=tS (P:=P) h I (fun x hx=>⟨iH hv x hx,(List.all_eq_true.1 hq.2) x hx⟩)
    refine ⟨w',?_,h2,h3⟩
    have ha:conc c (.ptr id off)=.pointer (some (dU c id off)):=by simp [conc,dU]
    rw [ha]
    simp only [Instr.storeAt,Instr.sureAddr,pure_bind,storeVar,Sem.run_bind,b9 hk,Result.andThen_ok]
    have:(conc c v).cells.size=k:=by rw [dN]; simpa using hlen
    simp [this,sC,h1]
  ·simp at I
 ·simp at I
def Ctx.grow (c:Ctx)(b base size:Nat): Ctx:=⟨fun i=>if i=c.N then (b,base) else c.ρ i,fun x=>if x=b then size else c.Z x,c.N+1,fun i=>if i=c.N then false else c.X i⟩
theorem ja (c:Ctx)(b base size:Nat): (c.grow b base size).N=c.N+1:=rfl
theorem aN (c:Ctx)(b base size:Nat): (c.grow b base size).ρ c.N=(b,base):=by simp [Ctx.grow]
theorem cn (c:Ctx)(b base size:Nat){i:Nat}(h:i<c.N): (c.grow b base size).ρ i=c.ρ i:=by
 simp [Ctx.grow,gY h]
theorem sD (c:Ctx)(b base size:Nat): (c.grow b base size).X c.N=false:=by simp [Ctx.grow]
theorem eA (c:Ctx)(b base size:Nat){i:Nat}(h:i<c.N): (c.grow b base size).X i=c.X i:=by
 simp [Ctx.grow,gY h]
theorem eZ (w:World)(o:Go.Obj)(i:Nat): (w.alloc o).heap[i]?=if i=w.heap.size then some o else w.heap[i]?:=by
 simp only [World.alloc,zu]
 try rfl
def objSize : Go.Obj→Nat
 | .cells C _ _=>C.size
 | _=>0
theorem jr (w:World)(o:Go.Obj){b:Nat}(h:b<w.heap.size): rowSize (w.alloc o) b=rowSize w b:=by
 unfold rowSize; rw [eZ]; simp [gY h]
theorem we (w:World)(o:Go.Obj): rowSize (w.alloc o) w.heap.size=objSize o:=by
 unfold rowSize; rw [eZ]; simp; cases o <;> rfl
theorem wS (h:Rel c σ w)(base size:Nat): Ext c (c.grow w.heap.size base size) :=
 ⟨by simp [Ctx.grow],fun id hi=>cn c _ _ _ hi,fun id hi=>by
  have:=h.iZ id hi
  simp [Ctx.grow,gY this],fun id hi=>eA c _ _ _ hi⟩
theorem xA.later {c':Ctx}{w':World}(e:Ext c c'){id:Nat}{o:Obj}(I:id<c.N)(J:w'.heap[(c.ρ id).1]?=w.heap[(c.ρ id).1]?)(h:xA c w id o): xA c' w' id o:=by
 cases o with
 | cells n cs st =>
  obtain ⟨a1,a2,C,el,fz,a3,a4,a5,a6⟩:=h
  refine ⟨a1,fun v hv=>⟨(bV e v (a2 v hv).1).2,(a2 v hv).2⟩,C,el,fz,by rw [e.ρ id I,J,a3],by rw [e.ρ id I]; exact a4,fun j v hv => ?_,a6⟩
  rw [e.ρ id I,(bV e v (a2 v (bh hv)).1).1]
  exact a5 j v hv
 | map es clock =>
  refine ⟨fun x hx=>⟨(bV e _ (h.1 x hx).1).2,(bV e _ (h.1 x hx).2).2⟩,?_⟩
  rw [e.ρ id I,J,h.2]
  congr 2
  congr 1
  refine oU fun x hx => ?_
  simp only [bH,(bV e _ (h.1 x hx).1).1,(bV e _ (h.1 x hx).2).1]
 | loop busy au env ps as bd =>
  obtain ⟨fn,tmps,D,b1,b2,b3,b4⟩:=h
  exact ⟨fn,tmps,D,by rw [e.ρ id I,J]; exact b1,b2,fun t=>by rw [b3 t,(bV e _ (b4 t)).1],fun t=>(bV e _ (b4 t)).2⟩
 | iter iu since last seen=>exact ⟨gi h.1 e.le,by rw [e.ρ id I]; exact h.2.1,by rw [e.ρ id I,J,e.ρ iu h.1]; exact h.2.2⟩
 | iE l pos=>exact ⟨h.1,by rw [e.ρ id I]; exact h.2.1,by rw [e.ρ id I,J]; exact h.2.2⟩
theorem Rel.new (h:Rel c σ w)(o:Obj)(O:Go.Obj)(base:Nat)(tT:base=0)(ho:xA (c.grow w.heap.size base (objSize O)) (w.alloc O) c.N o):
  Rel (c.grow w.heap.size base (objSize O)) (σ.new o) (w.alloc O)∧bU c w (c.grow w.heap.size base (objSize O)) (w.alloc O):=by
 have e:=wS h base (objSize O)
 have hold:∀id o,σ.tr.get id=some o→id<c.N:=h.live
 refine ⟨⟨by simp [H.new,Ctx.grow,h.next],fun id o' hi => ?_,fun id hi => ?_,fun id hi => ?_,fun i j On Oo hi hj he => ?_,fun id o' hi => ?_,fun id mC j3 hi hx => ?_,fun id o' hi hx => ?_⟩,
  ⟨e,by simp,fun b hb=>jr w O hb,fun b hb _=>by rw [eZ]; simp [gY hb],fun id h1 h2 => ?_,rfl,rfl⟩⟩
 ·rw [gm] at hi
  by_cases I:id=σ.next
  ·rw [I,h.next]; simp [Ctx.grow]
  ·simp [I] at hi; exact gi (hold id o' hi) (by simp [Ctx.grow])
 ·simp only [ja] at hi
  by_cases I:id=c.N
  ·subst I; rw [aN]; simp
  ·rw [cn c _ _ _ (by omega)]
   have:=h.iZ id (by omega)
   simp; omega
 ·simp only [ja] at hi
  by_cases I:id=c.N
  ·subst I; rw [aN,we]; simp [Ctx.grow]
  ·have J:id<c.N:=by omega
   have hb:=h.iZ id J
   rw [cn c _ _ _ J,jr w O hb,←h.zz id J]
   simp [Ctx.grow,gY hb]
 ·rw [gm] at hi hj
  have key:∀i o',(if i=σ.next then some o else σ.tr.get i)=some o'→(i=c.N∧((c.grow w.heap.size base (objSize O)).ρ i).1=w.heap.size)∨(i<c.N∧(∃Oq,σ.tr.get i=some Oq)∧((c.grow w.heap.size base (objSize O)).ρ i).1=(c.ρ i).1∧(c.ρ i).1<w.heap.size):=by
   intro i o' hi
   by_cases I:i=σ.next
   ·left; rw [I,h.next,aN]; simp
   ·simp [I] at hi
    right
    have:=hold i o' hi
    exact ⟨this,⟨o',hi⟩,by rw [cn c _ _ _ this],h.iZ i this⟩
  rcases key i On hi with ⟨a1,a2⟩ | ⟨a1,⟨_,a2⟩,a3,a4⟩ <;> rcases key j Oo hj with ⟨b1,b2⟩ | ⟨b1,⟨_,b2⟩,b3,b4⟩
  ·exact .inl (by omega)
  ·omega
  ·omega
  ·rw [eA c _ _ _ a1,eA c _ _ _ b1]; exact h.inj i j _ _ a2 b2 (by rw [←a3,←b3,he])
 ·rw [gm] at hi
  by_cases I:id=σ.next
  ·simp [I] at hi
   subst hi
   rw [I,h.next]
   exact ho
  ·simp [I] at hi
   have J:=hold id o' hi
   exact (h.obj id o' hi).later e J (by rw [eZ]; simp [gY (h.iZ id J)])
 ·rw [gm] at hi
  by_cases I:id=σ.next
  ·rw [I,h.next,aN]; exact tT
  ·simp [I] at hi
   rw [eA c _ _ _ (hold id _ hi)] at hx
   rw [cn c _ _ _ (hold id _ hi)]; exact h.one id mC j3 hi hx
 ·rw [gm] at hi
  by_cases I:id=σ.next
  ·rw [I,h.next,sD] at hx; cases hx
  ·simp [I] at hi
   rw [eA c _ _ _ (hold id _ hi)] at hx
   exact h.fx id o' hi hx
 ·simp only [ja] at h2
  have:id=c.N:=by omega
  subst this
  left; rw [aN]; exact aD _
theorem Rel.newRow {cs:List V}(h:Rel c σ w)(I:∀v∈cs,wf c v∧storable v=true)(e:TypeId)(more:List Value):
  Rel (c.grow w.heap.size 0 (cs.length+more.length)) (σ.new (.cells cs.length cs false)) (w.alloc (.cells (cs.map (conc c)++more).toArray e)) ∧
  bU c w (c.grow w.heap.size 0 (cs.length+more.length)) (w.alloc (.cells (cs.map (conc c)++more).toArray e)):=by
 have J:objSize (.cells (cs.map (conc c)++more).toArray e)=cs.length+more.length:=by simp [objSize]
 have:=h.new (.cells cs.length cs false) (.cells (cs.map (conc c)++more).toArray e) 0 rfl ?_
 ·rw [J] at this; exact this
 ·rw [J]
  have ex:=wS h 0 (cs.length+more.length)
  refine ⟨rfl,fun v hv=>⟨(bV ex v (I v hv).1).2,(I v hv).2⟩,(cs.map (conc c)++more).toArray,e,(0,0),by rw [aN,eZ]; simp,by rw [aN]; simp,fun j v hv => ?_,rfl⟩
  rw [aN]
  obtain ⟨hj,tq⟩:=List.getElem?_eq_some_iff.1 hv
  rw [(bV ex v (I v (bh hv)).1).1]
  simp [iS,hj,tq]
theorem Rel.kill (h:Rel c σ w)(id:Nat): Rel c (σ.put id none) w:=by
 refine ⟨h.next,fun j o I => ?_,h.iZ,h.zz,fun i j o o' hi I he => ?_,fun j o I => ?_,fun j mC j3 I hx => ?_,fun j o I hx => ?_⟩
 ·rw [bY] at I
  by_cases J:j=id
  ·simp [J] at I
  ·simp [J] at I; exact h.live j o I
 ·rw [bY] at hi I
  by_cases h1:i=id
  ·simp [h1] at hi
  ·by_cases h2:j=id
   ·simp [h2] at I
   ·simp [h1] at hi; simp [h2] at I; exact h.inj i j o o' hi I he
 ·rw [bY] at I
  by_cases J:j=id
  ·simp [J] at I
  ·simp [J] at I; exact h.obj j o I
 ·rw [bY] at I
  by_cases J:j=id
  ·simp [J] at I
  ·simp [J] at I; exact h.one j mC j3 I hx
 ·rw [bY] at I
  by_cases J:j=id
  ·simp [J] at I
  ·simp [J] at I; exact h.fx j o I hx
theorem Rel.pR {id:Nat}{es es':List (V×V×Nat)}{k k':Nat}(h:Rel c σ w)(hg:σ.tr.get id=some (.map es k))(jM:∀x∈es',wf c x.1∧wf c x.2.1):
  Rel c (σ.put id (some (.map es' k'))) { w with heap:=w.heap.setIfInBounds (c.ρ id).1 (.map (es'.map (bH c)).toArray k') } ∧
  bU c w c { w with heap:=w.heap.setIfInBounds (c.ρ id).1 (.map (es'.map (bH c)).toArray k') }:=by
 obtain ⟨hw,hb⟩:=h.obj id _ hg
 have bk:(c.ρ id).1<w.heap.size:=(Array.getElem?_eq_some_iff.1 hb).1
 have hX:=h.sB hg (by intro _ _ he; cases he)
 have get:∀i,({ w with heap:=w.heap.setIfInBounds (c.ρ id).1 (.map (es'.map (bH c)).toArray k') }:World).heap[i]?=if (c.ρ id).1=i then some (.map (es'.map (bH c)).toArray k') else w.heap[i]?:=by
  intro i; simp only [iR,bk,bz]
 have rows:∀i,rowSize { w with heap:=w.heap.setIfInBounds (c.ρ id).1 (.map (es'.map (bH c)).toArray k') } i=rowSize w i:=by
  intro i
  unfold rowSize
  rw [get]
  by_cases hi:(c.ρ id).1=i
  ·subst hi; simp [hb]
  ·simp [hi]
 refine ⟨⟨h.next,fun j o I => ?_,fun j I=>by simpa using h.iZ j I,fun j I=>by rw [rows]; exact h.zz j I,fun i j o o' hi I he => ?_,fun j o I => ?_,fun j mC j3 I hx => ?_,fun j o I hx => ?_⟩,
  ⟨Ext.refl c,by simp,fun b _=>rows b,fun b _ hn => ?_,fun j h1 h2=>by omega,rfl,rfl⟩⟩
 ·rw [bY] at I
  by_cases J:j=id
  ·subst J; exact h.live j _ hg
  ·simp [J] at I; exact h.live j o I
 ·rw [bY] at hi I
  have mD:∃o,σ.tr.get i=some o:=by
   by_cases i_:i=id
   ·subst i_; exact ⟨_,hg⟩
   ·simp [i_] at hi; exact ⟨_,hi⟩
  have mE:∃o,σ.tr.get j=some o:=by
   by_cases i_:j=id
   ·subst i_; exact ⟨_,hg⟩
   ·simp [i_] at I; exact ⟨_,I⟩
  obtain ⟨_,mD⟩:=mD
  obtain ⟨_,mE⟩:=mE
  exact h.inj i j _ _ mD mE he
 ·rw [bY] at I
  by_cases J:j=id
  ·subst J
   simp at I
   subst I
   exact ⟨jM,by rw [get]; simp⟩
  ·simp [J] at I
   have dg:(c.ρ id).1≠(c.ρ j).1:=fun he=>J (h.qW I hg he.symm hX)
   have:=h.obj j o I
   cases o with
   | cells n' tR st' =>
    obtain ⟨a1,a2,D,e',m0,a3,a4⟩:=this
    exact ⟨a1,a2,D,e',m0,by rw [get]; simpa [dg] using a3,a4⟩
   | map es clock=>exact ⟨this.1,by rw [get]; simpa [dg] using this.2⟩
   | loop busy au env ps as bd =>
    obtain ⟨fn,tmps,D,b1,b2⟩:=this
    exact ⟨fn,tmps,D,by rw [get]; simpa [dg] using b1,b2⟩
   | iter iu since last seen=>exact ⟨this.1,this.2.1,by rw [get]; simpa [dg] using this.2.2⟩
   | iE l pos=>exact ⟨this.1,this.2.1,by rw [get]; simpa [dg] using this.2.2⟩
 ·rw [bY] at I
  by_cases J:j=id
  ·simp [J] at I
  ·simp [J] at I; exact h.one j mC j3 I hx
 ·rw [bY] at I
  by_cases J:j=id
  ·rw [J,hX] at hx; cases hx
  ·simp [J] at I; exact h.fx j o I hx
 ·rw [get]
  have:(c.ρ id).1≠b:=fun he=>by have:=hn id (h.live id _ hg) he; rw [hX] at this; cases this
  simp [this]
theorem Rel.Ev {id au:Nat}{busy qz:Bool}{env:Env}{ps:List Nat}{as bd:Code}{fn D:Nat}{tmps:Array Value}(h:Rel c σ w)(hg:σ.tr.get id=some (.loop busy au env ps as bd))
 (hb:w.heap[(c.ρ id).1]?=some (.loop ⟨cond busy .busy .ready,none,fn,tmps,ps.toArray,as,bd,D⟩))(jM:tmps.size=au∧(∀t,tmps.getD t undef=conc c (Env.v env t))∧(∀t,wf c (Env.v env t))):
  Rel c (σ.put id (some (.loop qz au env ps as bd))) { w with heap:=w.heap.setIfInBounds (c.ρ id).1 (.loop ⟨cond qz .busy .ready,none,fn,tmps,ps.toArray,as,bd,D⟩) } ∧
  bU c w c { w with heap:=w.heap.setIfInBounds (c.ρ id).1 (.loop ⟨cond qz .busy .ready,none,fn,tmps,ps.toArray,as,bd,D⟩) }:=by
 have bk:(c.ρ id).1<w.heap.size:=(Array.getElem?_eq_some_iff.1 hb).1
 have hX:=h.sB hg (by intro _ _ he; cases he)
 have get:∀i,({ w with heap:=w.heap.setIfInBounds (c.ρ id).1 (.loop ⟨cond qz .busy .ready,none,fn,tmps,ps.toArray,as,bd,D⟩) }:World).heap[i]?=if (c.ρ id).1=i then some (.loop ⟨cond qz .busy .ready,none,fn,tmps,ps.toArray,as,bd,D⟩) else w.heap[i]?:=by
  intro i; simp only [iR,bk,bz]
 have rows:∀i,rowSize { w with heap:=w.heap.setIfInBounds (c.ρ id).1 (.loop ⟨cond qz .busy .ready,none,fn,tmps,ps.toArray,as,bd,D⟩) } i=rowSize w i:=by
  intro i
  unfold rowSize
  rw [get]
  by_cases hi:(c.ρ id).1=i
  ·subst hi; simp [hb]
  ·simp [hi]
 refine ⟨⟨h.next,fun j o I => ?_,fun j I=>by simpa using h.iZ j I,fun j I=>by rw [rows]; exact h.zz j I,fun i j o o' hi I he => ?_,fun j o I => ?_,fun j mC j3 I hx => ?_,fun j o I hx => ?_⟩,
  ⟨Ext.refl c,by simp,fun b _=>rows b,fun b _ hn => ?_,fun j h1 h2=>by omega,rfl,rfl⟩⟩
 ·rw [bY] at I
  by_cases J:j=id
  ·subst J; exact h.live j _ hg
  ·simp [J] at I; exact h.live j o I
 ·rw [bY] at hi I
  have mD:∃o,σ.tr.get i=some o:=by
   by_cases i_:i=id
   ·subst i_; exact ⟨_,hg⟩
   ·simp [i_] at hi; exact ⟨_,hi⟩
  have mE:∃o,σ.tr.get j=some o:=by
   by_cases i_:j=id
   ·subst i_; exact ⟨_,hg⟩
   ·simp [i_] at I; exact ⟨_,I⟩
  obtain ⟨_,mD⟩:=mD
  obtain ⟨_,mE⟩:=mE
  exact h.inj i j _ _ mD mE he
 ·rw [bY] at I
  by_cases J:j=id
  ·subst J
   simp at I
   subst I
   exact ⟨fn,tmps,D,by rw [get]; simp,jM⟩
  ·simp [J] at I
   have dg:(c.ρ id).1≠(c.ρ j).1:=fun he=>J (h.qW I hg he.symm hX)
   have:=h.obj j o I
   cases o with
   | cells n' tR st' =>
    obtain ⟨a1,a2,D,e',m0,a3,a4⟩:=this
    exact ⟨a1,a2,D,e',m0,by rw [get]; simpa [dg] using a3,a4⟩
   | map es clock=>exact ⟨this.1,by rw [get]; simpa [dg] using this.2⟩
   | loop busy au env ps as bd =>
    obtain ⟨fn,tmps,D,b1,b2⟩:=this
    exact ⟨fn,tmps,D,by rw [get]; simpa [dg] using b1,b2⟩
   | iter iu since last seen=>exact ⟨this.1,this.2.1,by rw [get]; simpa [dg] using this.2.2⟩
   | iE l pos=>exact ⟨this.1,this.2.1,by rw [get]; simpa [dg] using this.2.2⟩
 ·rw [bY] at I
  by_cases J:j=id
  ·simp [J] at I
  ·simp [J] at I; exact h.one j mC j3 I hx
 ·rw [bY] at I
  by_cases J:j=id
  ·rw [J,hX] at hx; cases hx
  ·simp [J] at I; exact h.fx j o I hx
 ·rw [get]
  have:(c.ρ id).1≠b:=fun he=>by have:=hn id (h.live id _ hg) he; rw [hX] at this; cases this
  simp [this]
theorem Rel.setIter {id iu since last last':Nat}{seen seen':List Nat}(h:Rel c σ w)(hg:σ.tr.get id=some (.iter iu since last seen)):
  Rel c (σ.put id (some (.iter iu since last' seen'))) { w with heap:=w.heap.setIfInBounds (c.ρ id).1 (.mapIter (some (c.ρ iu).1) since seen'.toArray last') } ∧
  bU c w c { w with heap:=w.heap.setIfInBounds (c.ρ id).1 (.mapIter (some (c.ρ iu).1) since seen'.toArray last') }:=by
 obtain ⟨BZ,qA,hb⟩:=h.obj id _ hg
 have bk:(c.ρ id).1<w.heap.size:=(Array.getElem?_eq_some_iff.1 hb).1
 have hX:=h.sB hg (by intro _ _ he; cases he)
 have get:∀i,({ w with heap:=w.heap.setIfInBounds (c.ρ id).1 (.mapIter (some (c.ρ iu).1) since seen'.toArray last') }:World).heap[i]?=if (c.ρ id).1=i then some (.mapIter (some (c.ρ iu).1) since seen'.toArray last') else w.heap[i]?:=by
  intro i; simp only [iR,bk,bz]
 have rows:∀i,rowSize { w with heap:=w.heap.setIfInBounds (c.ρ id).1 (.mapIter (some (c.ρ iu).1) since seen'.toArray last') } i=rowSize w i:=by
  intro i
  unfold rowSize
  rw [get]
  by_cases hi:(c.ρ id).1=i
  ·subst hi; simp [hb]
  ·simp [hi]
 refine ⟨⟨h.next,fun j o I => ?_,fun j I=>by simpa using h.iZ j I,fun j I=>by rw [rows]; exact h.zz j I,fun i j o o' hi I he => ?_,fun j o I => ?_,fun j mC j3 I hx => ?_,fun j o I hx => ?_⟩,
  ⟨Ext.refl c,by simp,fun b _=>rows b,fun b _ hn => ?_,fun j h1 h2=>by omega,rfl,rfl⟩⟩
 ·rw [bY] at I
  by_cases J:j=id
  ·subst J; exact h.live j _ hg
  ·simp [J] at I; exact h.live j o I
 ·rw [bY] at hi I
  have mD:∃o,σ.tr.get i=some o:=by
   by_cases i_:i=id
   ·subst i_; exact ⟨_,hg⟩
   ·simp [i_] at hi; exact ⟨_,hi⟩
  have mE:∃o,σ.tr.get j=some o:=by
   by_cases i_:j=id
   ·subst i_; exact ⟨_,hg⟩
   ·simp [i_] at I; exact ⟨_,I⟩
  obtain ⟨_,mD⟩:=mD
  obtain ⟨_,mE⟩:=mE
  exact h.inj i j _ _ mD mE he
 ·rw [bY] at I
  by_cases J:j=id
  ·subst J
   simp at I
   subst I
   exact ⟨BZ,qA,by rw [get]; simp⟩
  ·simp [J] at I
   have dg:(c.ρ id).1≠(c.ρ j).1:=fun he=>J (h.qW I hg he.symm hX)
   have:=h.obj j o I
   cases o with
   | cells n' tR st' =>
    obtain ⟨a1,a2,D,e',m0,a3,a4⟩:=this
    exact ⟨a1,a2,D,e',m0,by rw [get]; simpa [dg] using a3,a4⟩
   | map es clock=>exact ⟨this.1,by rw [get]; simpa [dg] using this.2⟩
   | loop busy au env ps as bd =>
    obtain ⟨fn,tmps,D,b1,b2⟩:=this
    exact ⟨fn,tmps,D,by rw [get]; simpa [dg] using b1,b2⟩
   | iter iu since last seen=>exact ⟨this.1,this.2.1,by rw [get]; simpa [dg] using this.2.2⟩
   | iE l pos=>exact ⟨this.1,this.2.1,by rw [get]; simpa [dg] using this.2.2⟩
 ·rw [bY] at I
  by_cases J:j=id
  ·simp [J] at I
  ·simp [J] at I; exact h.one j mC j3 I hx
 ·rw [bY] at I
  by_cases J:j=id
  ·rw [J,hX] at hx; cases hx
  ·simp [J] at I; exact h.fx j o I hx
 ·rw [get]
  have:(c.ρ id).1≠b:=fun he=>by have:=hn id (h.live id _ hg) he; rw [hX] at this; cases this
  simp [this]
theorem Rel.Ot {id pos pos':Nat}{l:List Nat}(h:Rel c σ w)(hg:σ.tr.get id=some (.iE l pos)):
  Rel c (σ.put id (some (.iE l pos'))) { w with heap:=w.heap.setIfInBounds (c.ρ id).1 (.stringIter ⟨(l.map UInt8.ofNat).toArray⟩ pos') } ∧
  bU c w c { w with heap:=w.heap.setIfInBounds (c.ρ id).1 (.stringIter ⟨(l.map UInt8.ofNat).toArray⟩ pos') }:=by
 obtain ⟨BZ,qA,hb⟩:=h.obj id _ hg
 have bk:(c.ρ id).1<w.heap.size:=(Array.getElem?_eq_some_iff.1 hb).1
 have hX:=h.sB hg (by intro _ _ he; cases he)
 have get:∀i,({ w with heap:=w.heap.setIfInBounds (c.ρ id).1 (.stringIter ⟨(l.map UInt8.ofNat).toArray⟩ pos') }:World).heap[i]?=if (c.ρ id).1=i then some (.stringIter ⟨(l.map UInt8.ofNat).toArray⟩ pos') else w.heap[i]?:=by
  intro i; simp only [iR,bk,bz]
 have rows:∀i,rowSize { w with heap:=w.heap.setIfInBounds (c.ρ id).1 (.stringIter ⟨(l.map UInt8.ofNat).toArray⟩ pos') } i=rowSize w i:=by
  intro i
  unfold rowSize
  rw [get]
  by_cases hi:(c.ρ id).1=i
  ·subst hi; simp [hb]
  ·simp [hi]
 refine ⟨⟨h.next,fun j o I => ?_,fun j I=>by simpa using h.iZ j I,fun j I=>by rw [rows]; exact h.zz j I,fun i j o o' hi I he => ?_,fun j o I => ?_,fun j mC j3 I hx => ?_,fun j o I hx => ?_⟩,
  ⟨Ext.refl c,by simp,fun b _=>rows b,fun b _ hn => ?_,fun j h1 h2=>by omega,rfl,rfl⟩⟩
 ·rw [bY] at I
  by_cases J:j=id
  ·subst J; exact h.live j _ hg
  ·simp [J] at I; exact h.live j o I
 ·rw [bY] at hi I
  have mD:∃o,σ.tr.get i=some o:=by
   by_cases i_:i=id
   ·subst i_; exact ⟨_,hg⟩
   ·simp [i_] at hi; exact ⟨_,hi⟩
  have mE:∃o,σ.tr.get j=some o:=by
   by_cases i_:j=id
   ·subst i_; exact ⟨_,hg⟩
   ·simp [i_] at I; exact ⟨_,I⟩
  obtain ⟨_,mD⟩:=mD
  obtain ⟨_,mE⟩:=mE
  exact h.inj i j _ _ mD mE he
 ·rw [bY] at I
  by_cases J:j=id
  ·subst J
   simp at I
   subst I
   exact ⟨BZ,qA,by rw [get]; simp⟩
  ·simp [J] at I
   have dg:(c.ρ id).1≠(c.ρ j).1:=fun he=>J (h.qW I hg he.symm hX)
   have:=h.obj j o I
   cases o with
   | cells n' tR st' =>
    obtain ⟨a1,a2,D,e',m0,a3,a4⟩:=this
    exact ⟨a1,a2,D,e',m0,by rw [get]; simpa [dg] using a3,a4⟩
   | map es clock=>exact ⟨this.1,by rw [get]; simpa [dg] using this.2⟩
   | loop busy au env ps as bd =>
    obtain ⟨fn,tmps,D,b1,b2⟩:=this
    exact ⟨fn,tmps,D,by rw [get]; simpa [dg] using b1,b2⟩
   | iter iu since last seen=>exact ⟨this.1,this.2.1,by rw [get]; simpa [dg] using this.2.2⟩
   | iE l pos=>exact ⟨this.1,this.2.1,by rw [get]; simpa [dg] using this.2.2⟩
 ·rw [bY] at I
  by_cases J:j=id
  ·simp [J] at I
  ·simp [J] at I; exact h.one j mC j3 I hx
 ·rw [bY] at I
  by_cases J:j=id
  ·rw [J,hX] at hx; cases hx
  ·simp [J] at I; exact h.fx j o I hx
 ·rw [get]
  have:(c.ρ id).1≠b:=fun he=>by have:=hn id (h.live id _ hg) he; rw [hX] at this; cases this
  simp [this]
theorem ij {b:Nat}{o:Go.Obj}(h:w.heap[b]?=some o)(I:∀C e f,o≠.cells C e f): (getObj b).run P w=.ok o w:=by
 simp only [getObj,Sem.run,h]
theorem jb {b:Nat}{o o':Go.Obj}(h:w.heap[b]?=some o)(I:∀C e f,o≠.cells C e f): (setObj b o').run P w=.ok () { w with heap:=w.heap.setIfInBounds b o' }:=by
 simp only [setObj,Sem.run,h]
end
end Go.Proofs.YtefepnnfphdkpaaGreat.Am
