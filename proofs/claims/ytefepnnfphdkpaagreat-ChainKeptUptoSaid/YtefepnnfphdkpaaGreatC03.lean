/- ChainKept: a part of its proof; conditions: its statement's. -/
import Derived.Test.YtefepnnfphdkpaaGreatC02
namespace Go.Proofs.YtefepnnfphdkpaaGreat.Am
open Go
section
variable {P:Program} {c:Ctx} {σ:H} {w:World}
theorem cr {t:TypeId}{k:Nat}(h:bj P t=some k)(w:World): (sizeOf t).run P w=.ok k w:=by
 unfold bj at h
 cases hi:P.info? t with
 | none=>simp [hi] at h
 | some i=>simp [hi] at h; simp [sizeOf,typeInfo,hi,h]
theorem o7 {t:TypeId}{b:Bool}(h:bZ P t=some b)(w:World): (isAgg t).run P w=.ok b w:=by
 unfold bZ at h
 cases hu:P.underlying t with
 | none=>simp [hu] at h
 | some d=>cases d <;> simp [hu] at h <;> subst h <;> simp [isAgg,run_underlying hu]
theorem w6 (s:ByteArray): (⟨((s.data.toList.map (·.toNat)).map UInt8.ofNat).toArray⟩:ByteArray)=s:=by
 have:(s.data.toList.map (·.toNat)).map UInt8.ofNat=s.data.toList:=by
  rw [v8]
  have:(UInt8.ofNat∘fun (x:UInt8)=>x.toNat)=id:=by funext x; simp
  rw [this]; simp
 rw [this]
theorem oo {x:Value}{v:V}(h:ofScalar x=some v)(c:Ctx): conc c v=x∧wf c v∧v.cells=[v]:=by
 unfold ofScalar at h
 split at h <;> simp only [aj,reduceCtorEq] at h
 all_goals subst h
 all_goals refine ⟨?_,?_,by simp [V.cells]⟩
 all_goals first
  | (simp only [conc]; done)
  | (simp only [wf]; done)
  | (simp only [conc]; rw [w6])
  | (simp only [wf,lG]; rintro x ⟨y,_,rfl⟩; exact y.toNat_lt)
theorem Ew {l:List Value}{m:List V}(h:mapO ofScalar l=some m)(c:Ctx): m.map (conc c)=l∧(∀v∈m,wf c v):=by
 induction l generalizing m with
 | nil=>simp [mapO] at h; subst h; simp
 | cons x l ih =>
  simp only [mapO] at h
  cases I:ofScalar x with
  | none=>simp [I] at h
  | some y =>
   cases J:mapO ofScalar l with
   | none=>simp [I,J] at h
   | some m' =>
    simp [I,J] at h
    subst h
    have h1:=oo I c
    have h2:=ih J
    exact ⟨by simp [h1.1,h2.1],by simpa using ⟨h1.2.1,h2.2⟩⟩
theorem o8 {x:Value}{v:V}(h:ofValue x=some v)(c:Ctx): conc c v=x∧wf c v:=by
 unfold ofValue at h
 split at h
 ·rename_i cs
  cases hm:mapO ofScalar cs.toList with
  | none=>simp [hm] at h
  | some m =>
   simp [hm] at h
   subst h
   have I:=Ew hm c
   refine ⟨?_,?_⟩
   ·simp only [conc,eM,I.1]
   ·simp only [wf,eT]; exact I.2
 ·rename_i J
  split at h
  ·rename_i hl
   simp at h; subst h
   have:J = #[]:=by simpa using hl
   subst this
   exact ⟨by simp [conc,concL],by simp [wf,eo]⟩
  ·simp at h
 ·exact ⟨(oo h c).1,(oo h c).2.1⟩
theorem eH {t:TypeId}{z:V}(h:zeroT P t=some z)(c:Ctx)(w:World): (zeroValue t).run P w=.ok (conc c z) w∧wf c z:=by
 unfold zeroT at h
 cases hi:P.info? t with
 | none=>simp [hi] at h
 | some i =>
  cases I:i.zero with
  | none=>simp [hi,I] at h
  | some x =>
   simp only [hi,I,bV] at h
   have h0:ofValue x=some z:=by
    split at h
    ·simp at h
    ·exact h
   have J:=o8 h0 c
   exact ⟨by simp [zeroValue,typeInfo,hi,I,J.1],J.2⟩
theorem oV {x:Value}{v:V}(h:ofScalar x=some v): storable v=true:=by
 unfold ofScalar at h
 split at h <;> simp only [aj,reduceCtorEq] at h
 all_goals subst h; rfl
theorem jX {t:TypeId}{z:V}(h:zeroT P t=some z): ∀v∈z.cells,storable v=true:=by
 unfold zeroT at h
 split at h
 ·rename_i x hx
  split at h
  ·simp at h
  ·rename_i hn
   unfold ofValue at h
   split at h
   ·rename_i cs
    cases hm:mapO ofScalar cs.toList with
    | none=>simp [hm] at h
    | some m =>
     simp [hm] at h
     subst h
     have:∀(l:List Value) (m:List V),mapO ofScalar l=some m→∀v∈m,storable v=true:=by
      intro l
      induction l with
      | nil=>intro m h; simp [mapO] at h; subst h; simp
      | cons a l ih =>
       intro m h
       simp only [mapO] at h
       cases I:ofScalar a with
       | none=>simp [I] at h
       | some b =>
        cases J:mapO ofScalar l with
        | none=>simp [I,J] at h
        | some m' =>
         simp [I,J] at h
         subst h
         intro v hv
         rcases List.mem_cons.1 hv with rfl | hv
         ·exact oV I
         ·exact ih m' J v hv
     exact this _ _ hm
   ·rename_i vs
    split at h
    ·rename_i PO
     simp only [aj] at h
     exact absurd (by simp [ofValue,PO]) (hn [])
    ·simp at h
   ·intro v hv
    have I:=(oo h ⟨fun _=>(0,0),fun _=>0,0,fun _=>false⟩).2.2
    rw [I] at hv
    simp only [sq] at hv
    subst hv
    exact oV h
 ·simp at h
theorem tA (c:Ctx)(v:V): (conc c v).cells.toList=v.cells.map (conc c):=by
 cases v with
 | agg l=>simp [conc,Value.cells,V.cells,eM]
 | sl id off len cap=>cases cap <;> simp [conc,Value.cells,V.cells]
 | _=>simp [conc,Value.cells,V.cells]
theorem dX (c:Ctx)(v:V): (conc c v).cells=(v.cells.map (conc c)).toArray:=by
 rw [←tA]
theorem iW {v:V}(h:wf c v): ∀x∈v.cells,wf c x:=by
 cases v with
 | agg l=>simpa [V.cells,wf,eT] using h
 | _=>simpa [V.cells] using h
theorem uG {env:Env}{n:Nat}{a:Act}(he:c8 c env n a){x:Operand}{v:V}(h:evO env x=some v): a.eval x=conc c v∧wf c v:=by
 cases x with
 | tmp t=>simp [evO] at h; subst h; exact ⟨by simpa [Act.eval] using he.val t,he.uf t⟩
 | const k=>have:=o8 (show ofValue k=some v from h) c; exact ⟨by simp [Act.eval,this.1],this.2⟩
 | global g=>simp [evO] at h
 | func f=>simp [evO] at h; subst h; exact ⟨by simp [Act.eval,conc,concL],by simp [wf,eo]⟩
def ep (c:Ctx)(id off:Nat): Addr:=⟨(c.ρ id).1,(c.ρ id).2+off,none⟩
theorem qa (id off j:Nat): (ep c id off).add j=ep c id (off+j):=by
 simp only [ep,Addr.add_lit,iQ]
theorem cell_of {id n:Nat}{cs:List V}{st:Bool}(h:Rel c σ w)(I:σ.tr.get id=some (.cells n cs st)){j:Nat}{v:V}(hv:cs[j]?=some v):
  w.cell? (ep c id j)=some (conc c v):=by
 obtain ⟨_,_,C,e,fz,J,_,hc,_⟩:=h.obj id _ I
 simp [World.cell?,ep,J,hc j v hv]
theorem qm {id off k:Nat}{J:List V}(h:Rel c σ w)(I:rdN σ id off k=some J):
  J.length=k∧(∀v∈J,wf c v∧storable v=true)∧∀j x,(J.map (conc c))[j]?=some x→w.cell? ((ep c id off).add j)=some x:=by
 unfold rdN at I
 split at I
 ·rename_i n cs st hg
  obtain ⟨hn,iL,_⟩:=h.obj id _ hg
  cases hb:Nat.ble (off+k) n with
  | false=>simp [hb] at I
  | true =>
   have hle:=aE.1 hb
   simp only [hb,af,aj] at I
   have PO:J=(cs.drop off).take k:=by
    rw [←I]
    cases hq:(Nat.beq off 0&&Nat.beq k n) with
    | false=>rfl
    | true =>
     simp only [aI] at hq
     have h0:=beq_iff.1 hq.1
     have h1:=beq_iff.1 hq.2
     subst h0; simp [h1,hn]
   subst PO
   refine ⟨by simp; omega,fun v hv=>iL v (gI (fC hv)),fun j x hx => ?_⟩
   rw [qa]
   simp only [gJ,Option.map_eq_some_iff] at hx
   obtain ⟨v,hv,rfl⟩:=hx
   have sL:cs[off+j]?=some v:=by
    rw [jj] at hv
    split at hv
    ·rwa [jk] at hv
    ·simp at hv
   exact cell_of h hg sL
 ·simp at I
theorem AT {id off k:Nat}{I:List V}(h:Rel c σ w)(J:rdN σ id off k=some I):
  (loadCells (ep c id off) k).run P w=.ok (I.map (conc c)).toArray w:=by
 obtain ⟨hl,_,hc⟩:=qm h J
 have:=run_loadCells_list (P:=P) (w:=w) (ep c id off) (I.map (conc c)) hc
 rwa [ew,hl] at this
theorem PR {id off:Nat}{v:V}(h:Rel c σ w)(I:ue σ id off=some v): w.cell? (ep c id off)=some (conc c v)∧wf c v:=by
 unfold ue at I
 split at I
 ·rename_i n cs st hg
  rw [eW] at I
  obtain ⟨_,J,_⟩:=h.obj id _ hg
  exact ⟨cell_of h hg I,(J v (aY I)).1⟩
 ·simp at I
theorem CJ {t:TypeId}{a v:V}(h:Rel c σ w)(I:loadV P σ t a=some v):
  (Instr.loadAt t (conc c a)).run P w=.ok (conc c v) w∧wf c v:=by
 unfold loadV at I
 split at I
 ·rename_i id off
  have ha:conc c (.ptr id off)=.pointer (some (ep c id off)):=by simp [conc,ep]
  rw [ha]
  split at I
  ·rename_i hg
   split at I
   ·rename_i k hk
    cases J:rdN σ id off k with
    | none=>simp [J] at I
    | some vs =>
     simp [J] at I
     subst I
     have h1:=AT (P:=P) h J
     have h2:=qm h J
     refine ⟨?_,by simp only [wf,eT]; exact fun v hv=>(h2.2.1 v hv).1⟩
     simp [Instr.loadAt,Instr.sureAddr,loadVar,o7 hg,cr hk,h1,conc,eM]
   ·simp at I
  ·rename_i hg
   have h1:=PR h I
   exact ⟨by simp [Instr.loadAt,Instr.sureAddr,loadVar,o7 hg,h1.1],h1.2⟩
  ·simp at I
 ·simp at I
def World.setRow (w:World)(b:Nat)(C:Array Value)(e:TypeId)(I:Nat×Nat): World:={ w with heap:=w.heap.setIfInBounds b (.cells C e I) }
theorem Ey {b:Nat}{C:Array Value}{e:TypeId}{fz:Nat×Nat}(hb:w.heap[b]?=some (.cells C e fz))(p:Nat)(v:Value):
  w.setCell ⟨b,p,none⟩ v=World.setRow w b (C.setIfInBounds p v) e fz:=by
 unfold World.setCell World.setRow
 congr 1
 apply nJ
 intro i
 rw [Au,ji]
 obtain ⟨I,J⟩:=Array.getElem?_eq_some_iff.1 hb
 by_cases hi:b=i
 ·subst hi
  simp [I,J]
 ·simp [hi]
theorem fM {b:Nat}{C:Array Value}{e:TypeId}{I:Nat×Nat}(J:b<w.heap.size)(i:Nat):
  (World.setRow w b C e I).heap[i]?=if b=i then some (.cells C e I) else w.heap[i]?:=by
 unfold World.setRow
 simp only [ji,J,bC]
theorem setRow_setRow {b:Nat}{C D:Array Value}{e:TypeId}{I:Nat×Nat}:
  World.setRow (World.setRow w b C e I) b D e I=World.setRow w b D e I:=by
 unfold World.setRow
 simp
theorem sM : ∀(I:List Value) (i:Nat) (w:World) (b p:Nat) (C:Array Value) (e:TypeId) (J:Nat×Nat),
  w.heap[b]?=some (.cells C e J)→(∀j,j<C.size→¬ (J.1≤j∧j<J.2))→p+i+I.length≤C.size→(∀v∈I,v.oneCell'=true) →
  ∃C',(storeCells ⟨b,p,none⟩ I i).run P w=.ok () (World.setRow w b C' e J)∧C'.size=C.size ∧
   ∀j,C'[j]?=if p+i≤j∧j<p+i+I.length then I[j-(p+i)]? else C[j]?:=by
 intro I
 induction I with
 | nil =>
  intro i w b p C e J hb _ _ _
  refine ⟨C,?_,rfl,fun j=>by simp; omega⟩
  have:World.setRow w b C e J=w:=by
   unfold World.setRow
   congr 1
   apply nJ
   intro k
   rw [ji]
   obtain ⟨a_,mH⟩:=Array.getElem?_eq_some_iff.1 hb
   by_cases hk:b=k
   ·subst hk; simp [a_,mH]
   ·simp [hk]
  simp [storeCells,this]
 | cons v I ih =>
  intro i w b p C e J hb hf hl ho
  have a_:b<w.heap.size:=(Array.getElem?_eq_some_iff.1 hb).1
  simp only [aO] at hl
  have qW:w.cell? ⟨b,p+i,none⟩=some (C[p+i]'(by omega)):=by
   simp [World.cell?,hb]
  have PS:w.frozen? ⟨b,p+i,none⟩=false:=by
   have:=hf (p+i) (by omega)
   simp only [World.frozen?,hb]
   simpa using this
  have o9:(store (Addr.add ⟨b,p,none⟩ i) v).run P w=.ok () (World.setRow w b (C.setIfInBounds (p+i) v) e J):=by
   rw [Addr.add_lit,run_store P w _ v _ (ho v (by simp)),qW]
   simp only [PS,dP,bF]
   rw [Ey hb]
  obtain ⟨C',h1,h2,h3⟩:=ih (i+1) (World.setRow w b (C.setIfInBounds (p+i) v) e J) b p (C.setIfInBounds (p+i) v) e J
   (by rw [fM a_]; simp) (by simpa using hf) (by simp; omega) (fun x hx=>ho x (by simp [hx]))
  refine ⟨C',?_,by simpa using h2,fun j => ?_⟩
  ·simp only [storeCells,Sem.run_bind,o9,Result.andThen_ok,h1,setRow_setRow]
  ·rw [h3 j]
   by_cases hj:j=p+i
   ·subst hj
    have e1:¬ (p+(i+1)≤p+i∧p+i<p+(i+1)+I.length):=by omega
    have e2:p+i≤p+i∧p+i<p+i+(v::I).length:=by simp
    rw [ai e1,au e2]
    have:p+i<C.size:=by omega
    simp [this]
   ·by_cases PT:p+(i+1)≤j∧j<p+(i+1)+I.length
    ·have e2:p+i≤j∧j<p+i+(v::I).length:=by simp; omega
     rw [au PT,au e2]
     have:j-(p+i)=(j-(p+(i+1)))+1:=by omega
     rw [this]; simp
    ·have e2:¬ (p+i≤j∧j<p+i+(v::I).length):=by simp; omega
     rw [ai PT,ai e2]
     simp [iS hj]
theorem w9 {v:V}(h:storable v=true): (conc c v).oneCell'=true:=by
 cases v with
 | sl id off len cap=>cases cap <;> simp [conc,Value.oneCell']
 | agg l=>simp [storable] at h
 | bh l=>simp [storable] at h
 | _=>simp [conc,Value.oneCell']
theorem FzOk.clear {I:Nat×Nat}{n:Nat}(h:FzOk false I n): ∀j,j<n→¬ (I.1≤j∧j<I.2):=by
 intro j J
 simp [FzOk] at h; subst h; simp
theorem b9 (h:H)(id:Nat)(o:Option Obj)(j:Nat): (h.put id o).tr.get j=if j=id then o else h.tr.get j:=by
 simp [H.put,aK]
theorem fW (h:H)(o:Obj)(j:Nat): (h.new o).tr.get j=if j=h.next then some o else h.tr.get j:=by
 simp [H.new,aK]
theorem lJ {b:Nat}{C C':Array Value}{e:TypeId}{fz nA:Nat×Nat}(J:w.heap[b]?=some (.cells C e fz))(hs:C'.size=C.size)(i:Nat):
  rowSize (World.setRow w b C' e nA) i=rowSize w i:=by
 have I:b<w.heap.size:=(Array.getElem?_eq_some_iff.1 J).1
 unfold rowSize
 rw [fM I]
 by_cases hi:b=i
 ·subst hi; simp [J,hs]
 ·simp [hi]
theorem Rel.Fw {id n:Nat}{cs cs':List V}{st':Bool}{C C':Array Value}{e:TypeId}{fz nA:Nat×Nat}(h:Rel c σ w)(hg:σ.tr.get id=some (.cells n cs false))
 (hb:w.heap[(c.ρ id).1]?=some (.cells C e fz))(hs:C'.size=C.size)(hl:n=cs'.length)(iL:∀v∈cs',wf c v∧storable v=true)
 (hv:∀j v,cs'[j]?=some v→C'[(c.ρ id).2+j]?=some (conc c v))(GH:FzOk st' nA C.size):
  Rel c (σ.put id (some (.cells n cs' st'))) (World.setRow w (c.ρ id).1 C' e nA)∧bY c w c (World.setRow w (c.ρ id).1 C' e nA):=by
 have a_:(c.ρ id).1<w.heap.size:=(Array.getElem?_eq_some_iff.1 hb).1
 have hX:=h.tw hg (by intro _ _ he; cases he)
 obtain ⟨hn,hw,Yn,PU,VU,PV,hle,hc,_⟩:=h.obj id _ hg
 rw [hb] at PV
 simp only [aj,Go.Obj.cells.injEq] at PV
 obtain ⟨rfl,rfl,rfl⟩:=PV
 refine ⟨⟨h.next,fun j o I => ?_,fun j I=>by simpa [World.setRow] using h.je j I,fun j I=>by rw [lJ hb hs]; exact h.zz j I,fun i j o o' hi I he => ?_,fun j o I => ?_,fun j mI j9 I hx => ?_,fun j o I hx => ?_⟩,
  ⟨Ext.refl c,by simp [World.setRow],fun b _=>lJ hb hs b,fun b _ hn => ?_,fun j h1 h2=>by omega,rfl,rfl⟩⟩
 ·rw [b9] at I
  by_cases J:j=id
  ·subst J; exact h.live j _ hg
  ·simp [J] at I; exact h.live j o I
 ·rw [b9] at hi I
  have mX:∃o,σ.tr.get i=some o:=by
   by_cases jr:i=id
   ·subst jr; exact ⟨_,hg⟩
   ·simp [jr] at hi; exact ⟨_,hi⟩
  have mY:∃o,σ.tr.get j=some o:=by
   by_cases jr:j=id
   ·subst jr; exact ⟨_,hg⟩
   ·simp [jr] at I; exact ⟨_,I⟩
  obtain ⟨_,mX⟩:=mX
  obtain ⟨_,mY⟩:=mY
  exact h.inj i j _ _ mX mY he
 ·rw [b9] at I
  by_cases J:j=id
  ·subst J
   simp at I
   subst I
   exact ⟨hl,iL,C',e,nA,by rw [fM a_]; simp,by rw [hs]; exact hle,hv,by rw [hs]; exact GH⟩
  ·simp [J] at I
   have dh:(c.ρ id).1≠(c.ρ j).1:=fun he=>J (h.rS I hg he.symm hX)
   have:=h.obj j o I
   cases o with
   | cells n' uH st' =>
    obtain ⟨a1,a2,D,e',nA,a3,a4⟩:=this
    exact ⟨a1,a2,D,e',nA,by rw [fM a_]; simpa [dh] using a3,a4⟩
   | map es clock=>exact ⟨this.1,by rw [fM a_]; simpa [dh] using this.2⟩
   | loop busy ax env ps as bd =>
    obtain ⟨fn,tmps,D,b1,b2⟩:=this
    exact ⟨fn,tmps,D,by rw [fM a_]; simpa [dh] using b1,b2⟩
   | iter iK since last seen=>exact ⟨this.1,this.2.1,by rw [fM a_]; simpa [dh] using this.2.2⟩
   | iT l pos=>exact ⟨this.1,this.2.1,by rw [fM a_]; simpa [dh] using this.2.2⟩
 ·rw [b9] at I
  by_cases J:j=id
  ·subst J
   simp at I
   rw [I.1] at hg
   exact h.one j _ _ hg hx
  ·simp [J] at I
   exact h.one j mI j9 I hx
 ·rw [b9] at I
  by_cases J:j=id
  ·rw [J,hX] at hx; cases hx
  ·simp [J] at I; exact h.fx j o I hx
 ·rw [fM a_]
  have:(c.ρ id).1≠b:=fun he=>by have:=hn id (h.live id _ hg) he; rw [hX] at this; cases this
  simp [this]
theorem Rel.setRow {id n:Nat}{cs cs':List V}{C C':Array Value}{e:TypeId}{J:Nat×Nat}(h:Rel c σ w)(hg:σ.tr.get id=some (.cells n cs false))
 (hb:w.heap[(c.ρ id).1]?=some (.cells C e J))(hs:C'.size=C.size)(hl:n=cs'.length)(iL:∀v∈cs',wf c v∧storable v=true)
 (hv:∀j v,cs'[j]?=some v→C'[(c.ρ id).2+j]?=some (conc c v)):
  Rel c (σ.put id (some (.cells n cs' false))) (World.setRow w (c.ρ id).1 C' e J)∧bY c w c (World.setRow w (c.ρ id).1 C' e J):=by
 refine h.Fw hg hb hs hl iL hv ?_
 obtain ⟨_,_,Yn,PU,VU,I,_,_,sN⟩:=h.obj id _ hg
 rw [hb] at I
 simp only [aj,Go.Obj.cells.injEq] at I
 obtain ⟨rfl,rfl,rfl⟩:=I
 exact sN
theorem uI {id off:Nat}{I:List V}{dM:H}(h:Rel c σ w)(J:wrN σ id off I=some dM)(iL:∀v∈I,wf c v∧storable v=true):
  ∃w',(storeCells (ep c id off) (I.map (conc c))).run P w=.ok () w'∧Rel c dM w'∧bY c w c w':=by
 unfold wrN at J
 split at J
 ·rename_i n cs hg
  obtain ⟨hn,hw,C,e,fz,hb,hle,hc,sN⟩:=h.obj id _ hg
  cases hq:Nat.ble (off+I.length) n with
  | false=>simp [hq] at J
  | true =>
   have PW:=aE.1 hq
   simp only [hq,af,aj] at J
   have js:(cond (Nat.beq off 0&&Nat.beq I.length n) I (cs.take off++(I++cs.drop (off+I.length))))=cs.take off++(I++cs.drop (off+I.length)):=by
    cases mZ:(Nat.beq off 0&&Nat.beq I.length n) with
    | false=>rfl
    | true =>
     simp only [aI] at mZ
     have h0:=beq_iff.1 mZ.1
     have h1:=beq_iff.1 mZ.2
     subst h0
     simp [h1,hn]
   rw [js] at J
   subst J
   obtain ⟨C',h1,h2,h3⟩:=sM (P:=P) (I.map (conc c)) 0 w (c.ρ id).1 ((c.ρ id).2+off) C e fz hb sN.clear (by simp; omega)
    (by simp only [lG]; rintro _ ⟨v,hv,rfl⟩; exact w9 (iL v hv).2)
   refine ⟨_,h1,?_⟩
   refine h.setRow hg hb h2 (by simp; omega) ?_ ?_
   ·intro v hv
    simp only [nN] at hv
    rcases hv with hv | hv | hv
    ·exact hw v (fC hv)
    ·exact iL v hv
    ·exact hw v (gI hv)
   ·intro j v hv
    rw [h3]
    by_cases h4:j<off
    ·rw [gx (by simp; omega),jj,au h4] at hv
     rw [ai (by omega)]
     exact hc j v hv
    ·rw [iP (by simp; omega)] at hv
     have hlen:(cs.take off).length=off:=by simp; omega
     rw [hlen] at hv
     by_cases h5:j<off+I.length
     ·rw [gx (by omega)] at hv
      rw [au (by simp; omega)]
      rw [gJ,show (c.ρ id).2+j-((c.ρ id).2+off+0)=j-off from by omega,hv]
      rfl
     ·rw [iP (by omega),jk] at hv
      rw [ai (by simp; omega)]
      refine hc j v ?_
      rw [←hv]; congr 1; omega
 ·simp at J
theorem Iy {t:TypeId}{a v:V}{J:H}(h:Rel c σ w)(I:fH P σ t a v=some J)(hv:wf c v):
  ∃w',(Instr.storeAt t (conc c a) (conc c v)).run P w=.ok () w'∧Rel c J w'∧bY c w c w':=by
 unfold fH at I
 split at I
 ·rename_i id off
  split at I
  ·rename_i k hk
   cases hq:(Nat.beq v.cells.length k&&v.cells.all storable) with
   | false=>simp [hq] at I
   | true =>
    simp only [hq,af] at I
    simp only [aI] at hq
    have hlen:=beq_iff.1 hq.1
    obtain ⟨w',h1,h2,h3⟩:=uI (P:=P) h I (fun x hx=>⟨iW hv x hx,(List.all_eq_true.1 hq.2) x hx⟩)
    refine ⟨w',?_,h2,h3⟩
    have ha:conc c (.ptr id off)=.pointer (some (ep c id off)):=by simp [conc,ep]
    rw [ha]
    simp only [Instr.storeAt,Instr.sureAddr,pure_bind,storeVar,Sem.run_bind,cr hk,Result.andThen_ok]
    have:(conc c v).cells.size=k:=by rw [dX]; simpa using hlen
    simp [this,tA,h1]
  ·simp at I
 ·simp at I
def Ctx.grow (c:Ctx)(b base size:Nat): Ctx:=⟨fun i=>if i=c.N then (b,base) else c.ρ i,fun x=>if x=b then size else c.Z x,c.N+1,fun i=>if i=c.N then false else c.X i⟩
theorem jt (c:Ctx)(b base size:Nat): (c.grow b base size).N=c.N+1:=rfl
theorem aT (c:Ctx)(b base size:Nat): (c.grow b base size).ρ c.N=(b,base):=by simp [Ctx.grow]
theorem cD (c:Ctx)(b base size:Nat){i:Nat}(h:i<c.N): (c.grow b base size).ρ i=c.ρ i:=by
 simp [Ctx.grow,fE h]
theorem tB (c:Ctx)(b base size:Nat): (c.grow b base size).X c.N=false:=by simp [Ctx.grow]
theorem eP (c:Ctx)(b base size:Nat){i:Nat}(h:i<c.N): (c.grow b base size).X i=c.X i:=by
 simp [Ctx.grow,fE h]
theorem fy (w:World)(o:Go.Obj)(i:Nat): (w.alloc o).heap[i]?=if i=w.heap.size then some o else w.heap[i]?:=by
 simp only [World.alloc,Ay]
 try rfl
def objSize : Go.Obj→Nat
 | .cells C _ _=>C.size
 | _=>0
theorem jL (w:World)(o:Go.Obj){b:Nat}(h:b<w.heap.size): rowSize (w.alloc o) b=rowSize w b:=by
 unfold rowSize; rw [fy]; simp [fE h]
theorem w8 (w:World)(o:Go.Obj): rowSize (w.alloc o) w.heap.size=objSize o:=by
 unfold rowSize; rw [fy]; simp; cases o <;> rfl
theorem xG (h:Rel c σ w)(base size:Nat): Ext c (c.grow w.heap.size base size) :=
 ⟨by simp [Ctx.grow],fun id hi=>cD c _ _ _ hi,fun id hi=>by
  have:=h.je id hi
  simp [Ctx.grow,fE this],fun id hi=>eP c _ _ _ hi⟩
theorem yq.later {c':Ctx}{w':World}(e:Ext c c'){id:Nat}{o:Obj}(I:id<c.N)(J:w'.heap[(c.ρ id).1]?=w.heap[(c.ρ id).1]?)(h:yq c w id o): yq c' w' id o:=by
 cases o with
 | cells n cs st =>
  obtain ⟨a1,a2,C,el,fz,a3,a4,a5,a6⟩:=h
  refine ⟨a1,fun v hv=>⟨(bX e v (a2 v hv).1).2,(a2 v hv).2⟩,C,el,fz,by rw [e.ρ id I,J,a3],by rw [e.ρ id I]; exact a4,fun j v hv => ?_,a6⟩
  rw [e.ρ id I,(bX e v (a2 v (aY hv)).1).1]
  exact a5 j v hv
 | map es clock =>
  refine ⟨fun x hx=>⟨(bX e _ (h.1 x hx).1).2,(bX e _ (h.1 x hx).2).2⟩,?_⟩
  rw [e.ρ id I,J,h.2]
  congr 2
  congr 1
  refine pN fun x hx => ?_
  simp only [bJ,(bX e _ (h.1 x hx).1).1,(bX e _ (h.1 x hx).2).1]
 | loop busy ax env ps as bd =>
  obtain ⟨fn,tmps,D,b1,b2,b3,b4⟩:=h
  exact ⟨fn,tmps,D,by rw [e.ρ id I,J]; exact b1,b2,fun t=>by rw [b3 t,(bX e _ (b4 t)).1],fun t=>(bX e _ (b4 t)).2⟩
 | iter iK since last seen=>exact ⟨gz h.1 e.le,by rw [e.ρ id I]; exact h.2.1,by rw [e.ρ id I,J,e.ρ iK h.1]; exact h.2.2⟩
 | iT l pos=>exact ⟨h.1,by rw [e.ρ id I]; exact h.2.1,by rw [e.ρ id I,J]; exact h.2.2⟩
theorem Rel.new (h:Rel c σ w)(o:Obj)(O:Go.Obj)(base:Nat)(uJ:base=0)(ho:yq (c.grow w.heap.size base (objSize O)) (w.alloc O) c.N o):
  Rel (c.grow w.heap.size base (objSize O)) (σ.new o) (w.alloc O)∧bY c w (c.grow w.heap.size base (objSize O)) (w.alloc O):=by
 have e:=xG h base (objSize O)
 have hold:∀id o,σ.tr.get id=some o→id<c.N:=h.live
 refine ⟨⟨by simp [H.new,Ctx.grow,h.next],fun id o' hi => ?_,fun id hi => ?_,fun id hi => ?_,fun i j PX PY hi hj he => ?_,fun id o' hi => ?_,fun id mI j9 hi hx => ?_,fun id o' hi hx => ?_⟩,
  ⟨e,by simp,fun b hb=>jL w O hb,fun b hb _=>by rw [fy]; simp [fE hb],fun id h1 h2 => ?_,rfl,rfl⟩⟩
 ·rw [fW] at hi
  by_cases I:id=σ.next
  ·rw [I,h.next]; simp [Ctx.grow]
  ·simp [I] at hi; exact gz (hold id o' hi) (by simp [Ctx.grow])
 ·simp only [jt] at hi
  by_cases I:id=c.N
  ·subst I; rw [aT]; simp
  ·rw [cD c _ _ _ (by omega)]
   have:=h.je id (by omega)
   simp; omega
 ·simp only [jt] at hi
  by_cases I:id=c.N
  ·subst I; rw [aT,w8]; simp [Ctx.grow]
  ·have J:id<c.N:=by omega
   have hb:=h.je id J
   rw [cD c _ _ _ J,jL w O hb,←h.zz id J]
   simp [Ctx.grow,fE hb]
 ·rw [fW] at hi hj
  have key:∀i o',(if i=σ.next then some o else σ.tr.get i)=some o'→(i=c.N∧((c.grow w.heap.size base (objSize O)).ρ i).1=w.heap.size)∨(i<c.N∧(∃PZ,σ.tr.get i=some PZ)∧((c.grow w.heap.size base (objSize O)).ρ i).1=(c.ρ i).1∧(c.ρ i).1<w.heap.size):=by
   intro i o' hi
   by_cases I:i=σ.next
   ·left; rw [I,h.next,aT]; simp
   ·simp [I] at hi
    right
    have:=hold i o' hi
    exact ⟨this,⟨o',hi⟩,by rw [cD c _ _ _ this],h.je i this⟩
  rcases key i PX hi with ⟨a1,a2⟩ | ⟨a1,⟨_,a2⟩,a3,a4⟩ <;> rcases key j PY hj with ⟨b1,b2⟩ | ⟨b1,⟨_,b2⟩,b3,b4⟩
  ·exact .inl (by omega)
  ·omega
  ·omega
  ·rw [eP c _ _ _ a1,eP c _ _ _ b1]; exact h.inj i j _ _ a2 b2 (by rw [←a3,←b3,he])
 ·rw [fW] at hi
  by_cases I:id=σ.next
  ·simp [I] at hi
   subst hi
   rw [I,h.next]
   exact ho
  ·simp [I] at hi
   have J:=hold id o' hi
   exact (h.obj id o' hi).later e J (by rw [fy]; simp [fE (h.je id J)])
 ·rw [fW] at hi
  by_cases I:id=σ.next
  ·rw [I,h.next,aT]; exact uJ
  ·simp [I] at hi
   rw [eP c _ _ _ (hold id _ hi)] at hx
   rw [cD c _ _ _ (hold id _ hi)]; exact h.one id mI j9 hi hx
 ·rw [fW] at hi
  by_cases I:id=σ.next
  ·rw [I,h.next,tB] at hx; cases hx
  ·simp [I] at hi
   rw [eP c _ _ _ (hold id _ hi)] at hx
   exact h.fx id o' hi hx
 ·simp only [jt] at h2
  have:id=c.N:=by omega
  subst this
  left; rw [aT]; exact aD _
theorem Rel.newRow {cs:List V}(h:Rel c σ w)(I:∀v∈cs,wf c v∧storable v=true)(e:TypeId)(more:List Value):
  Rel (c.grow w.heap.size 0 (cs.length+more.length)) (σ.new (.cells cs.length cs false)) (w.alloc (.cells (cs.map (conc c)++more).toArray e)) ∧
  bY c w (c.grow w.heap.size 0 (cs.length+more.length)) (w.alloc (.cells (cs.map (conc c)++more).toArray e)):=by
 have J:objSize (.cells (cs.map (conc c)++more).toArray e)=cs.length+more.length:=by simp [objSize]
 have:=h.new (.cells cs.length cs false) (.cells (cs.map (conc c)++more).toArray e) 0 rfl ?_
 ·rw [J] at this; exact this
 ·rw [J]
  have ex:=xG h 0 (cs.length+more.length)
  refine ⟨rfl,fun v hv=>⟨(bX ex v (I v hv).1).2,(I v hv).2⟩,(cs.map (conc c)++more).toArray,e,(0,0),by rw [aT,fy]; simp,by rw [aT]; simp,fun j v hv => ?_,rfl⟩
  rw [aT]
  obtain ⟨hj,sL⟩:=List.getElem?_eq_some_iff.1 hv
  rw [(bX ex v (I v (aY hv)).1).1]
  simp [gx,hj,sL]
theorem Rel.kill (h:Rel c σ w)(id:Nat): Rel c (σ.put id none) w:=by
 refine ⟨h.next,fun j o I => ?_,h.je,h.zz,fun i j o o' hi I he => ?_,fun j o I => ?_,fun j mI j9 I hx => ?_,fun j o I hx => ?_⟩
 ·rw [b9] at I
  by_cases J:j=id
  ·simp [J] at I
  ·simp [J] at I; exact h.live j o I
 ·rw [b9] at hi I
  by_cases h1:i=id
  ·simp [h1] at hi
  ·by_cases h2:j=id
   ·simp [h2] at I
   ·simp [h1] at hi; simp [h2] at I; exact h.inj i j o o' hi I he
 ·rw [b9] at I
  by_cases J:j=id
  ·simp [J] at I
  ·simp [J] at I; exact h.obj j o I
 ·rw [b9] at I
  by_cases J:j=id
  ·simp [J] at I
  ·simp [J] at I; exact h.one j mI j9 I hx
 ·rw [b9] at I
  by_cases J:j=id
  ·simp [J] at I
  ·simp [J] at I; exact h.fx j o I hx
theorem Rel.qn {id:Nat}{es es':List (V×V×Nat)}{k k':Nat}(h:Rel c σ w)(hg:σ.tr.get id=some (.map es k))(iL:∀x∈es',wf c x.1∧wf c x.2.1):
  Rel c (σ.put id (some (.map es' k'))) { w with heap:=w.heap.setIfInBounds (c.ρ id).1 (.map (es'.map (bJ c)).toArray k') } ∧
  bY c w c { w with heap:=w.heap.setIfInBounds (c.ρ id).1 (.map (es'.map (bJ c)).toArray k') }:=by
 obtain ⟨hw,hb⟩:=h.obj id _ hg
 have a_:(c.ρ id).1<w.heap.size:=(Array.getElem?_eq_some_iff.1 hb).1
 have hX:=h.tw hg (by intro _ _ he; cases he)
 have get:∀i,({ w with heap:=w.heap.setIfInBounds (c.ρ id).1 (.map (es'.map (bJ c)).toArray k') }:World).heap[i]?=if (c.ρ id).1=i then some (.map (es'.map (bJ c)).toArray k') else w.heap[i]?:=by
  intro i; simp only [ji,a_,bC]
 have rows:∀i,rowSize { w with heap:=w.heap.setIfInBounds (c.ρ id).1 (.map (es'.map (bJ c)).toArray k') } i=rowSize w i:=by
  intro i
  unfold rowSize
  rw [get]
  by_cases hi:(c.ρ id).1=i
  ·subst hi; simp [hb]
  ·simp [hi]
 refine ⟨⟨h.next,fun j o I => ?_,fun j I=>by simpa using h.je j I,fun j I=>by rw [rows]; exact h.zz j I,fun i j o o' hi I he => ?_,fun j o I => ?_,fun j mI j9 I hx => ?_,fun j o I hx => ?_⟩,
  ⟨Ext.refl c,by simp,fun b _=>rows b,fun b _ hn => ?_,fun j h1 h2=>by omega,rfl,rfl⟩⟩
 ·rw [b9] at I
  by_cases J:j=id
  ·subst J; exact h.live j _ hg
  ·simp [J] at I; exact h.live j o I
 ·rw [b9] at hi I
  have mX:∃o,σ.tr.get i=some o:=by
   by_cases jr:i=id
   ·subst jr; exact ⟨_,hg⟩
   ·simp [jr] at hi; exact ⟨_,hi⟩
  have mY:∃o,σ.tr.get j=some o:=by
   by_cases jr:j=id
   ·subst jr; exact ⟨_,hg⟩
   ·simp [jr] at I; exact ⟨_,I⟩
  obtain ⟨_,mX⟩:=mX
  obtain ⟨_,mY⟩:=mY
  exact h.inj i j _ _ mX mY he
 ·rw [b9] at I
  by_cases J:j=id
  ·subst J
   simp at I
   subst I
   exact ⟨iL,by rw [get]; simp⟩
  ·simp [J] at I
   have dh:(c.ρ id).1≠(c.ρ j).1:=fun he=>J (h.rS I hg he.symm hX)
   have:=h.obj j o I
   cases o with
   | cells n' uH st' =>
    obtain ⟨a1,a2,D,e',nA,a3,a4⟩:=this
    exact ⟨a1,a2,D,e',nA,by rw [get]; simpa [dh] using a3,a4⟩
   | map es clock=>exact ⟨this.1,by rw [get]; simpa [dh] using this.2⟩
   | loop busy ax env ps as bd =>
    obtain ⟨fn,tmps,D,b1,b2⟩:=this
    exact ⟨fn,tmps,D,by rw [get]; simpa [dh] using b1,b2⟩
   | iter iK since last seen=>exact ⟨this.1,this.2.1,by rw [get]; simpa [dh] using this.2.2⟩
   | iT l pos=>exact ⟨this.1,this.2.1,by rw [get]; simpa [dh] using this.2.2⟩
 ·rw [b9] at I
  by_cases J:j=id
  ·simp [J] at I
  ·simp [J] at I; exact h.one j mI j9 I hx
 ·rw [b9] at I
  by_cases J:j=id
  ·rw [J,hX] at hx; cases hx
  ·simp [J] at I; exact h.fx j o I hx
 ·rw [get]
  have:(c.ρ id).1≠b:=fun he=>by have:=hn id (h.live id _ hg) he; rw [hX] at this; cases this
  simp [this]
theorem Rel.Fx {id ax:Nat}{busy qX:Bool}{env:Env}{ps:List Nat}{as bd:Code}{fn D:Nat}{tmps:Array Value}(h:Rel c σ w)(hg:σ.tr.get id=some (.loop busy ax env ps as bd))
 (hb:w.heap[(c.ρ id).1]?=some (.loop ⟨cond busy .busy .ready,none,fn,tmps,ps.toArray,as,bd,D⟩))(iL:tmps.size=ax∧(∀t,tmps.getD t undef=conc c (Env.v env t))∧(∀t,wf c (Env.v env t))):
  Rel c (σ.put id (some (.loop qX ax env ps as bd))) { w with heap:=w.heap.setIfInBounds (c.ρ id).1 (.loop ⟨cond qX .busy .ready,none,fn,tmps,ps.toArray,as,bd,D⟩) } ∧
  bY c w c { w with heap:=w.heap.setIfInBounds (c.ρ id).1 (.loop ⟨cond qX .busy .ready,none,fn,tmps,ps.toArray,as,bd,D⟩) }:=by
 have a_:(c.ρ id).1<w.heap.size:=(Array.getElem?_eq_some_iff.1 hb).1
 have hX:=h.tw hg (by intro _ _ he; cases he)
 have get:∀i,({ w with heap:=w.heap.setIfInBounds (c.ρ id).1 (.loop ⟨cond qX .busy .ready,none,fn,tmps,ps.toArray,as,bd,D⟩) }:World).heap[i]?=if (c.ρ id).1=i then some (.loop ⟨cond qX .busy .ready,none,fn,tmps,ps.toArray,as,bd,D⟩) else w.heap[i]?:=by
  intro i; simp only [ji,a_,bC]
 have rows:∀i,rowSize { w with heap:=w.heap.setIfInBounds (c.ρ id).1 (.loop ⟨cond qX .busy .ready,none,fn,tmps,ps.toArray,as,bd,D⟩) } i=rowSize w i:=by
  intro i
  unfold rowSize
  rw [get]
  by_cases hi:(c.ρ id).1=i
  ·subst hi; simp [hb]
  ·simp [hi]
 refine ⟨⟨h.next,fun j o I => ?_,fun j I=>by simpa using h.je j I,fun j I=>by rw [rows]; exact h.zz j I,fun i j o o' hi I he => ?_,fun j o I => ?_,fun j mI j9 I hx => ?_,fun j o I hx => ?_⟩,
  ⟨Ext.refl c,by simp,fun b _=>rows b,fun b _ hn => ?_,fun j h1 h2=>by omega,rfl,rfl⟩⟩
 ·rw [b9] at I
  by_cases J:j=id
  ·subst J; exact h.live j _ hg
  ·simp [J] at I; exact h.live j o I
 ·rw [b9] at hi I
  have mX:∃o,σ.tr.get i=some o:=by
   by_cases jr:i=id
   ·subst jr; exact ⟨_,hg⟩
   ·simp [jr] at hi; exact ⟨_,hi⟩
  have mY:∃o,σ.tr.get j=some o:=by
   by_cases jr:j=id
   ·subst jr; exact ⟨_,hg⟩
   ·simp [jr] at I; exact ⟨_,I⟩
  obtain ⟨_,mX⟩:=mX
  obtain ⟨_,mY⟩:=mY
  exact h.inj i j _ _ mX mY he
 ·rw [b9] at I
  by_cases J:j=id
  ·subst J
   simp at I
   subst I
   exact ⟨fn,tmps,D,by rw [get]; simp,iL⟩
  ·simp [J] at I
   have dh:(c.ρ id).1≠(c.ρ j).1:=fun he=>J (h.rS I hg he.symm hX)
   have:=h.obj j o I
   cases o with
   | cells n' uH st' =>
    obtain ⟨a1,a2,D,e',nA,a3,a4⟩:=this
    exact ⟨a1,a2,D,e',nA,by rw [get]; simpa [dh] using a3,a4⟩
   | map es clock=>exact ⟨this.1,by rw [get]; simpa [dh] using this.2⟩
   | loop busy ax env ps as bd =>
    obtain ⟨fn,tmps,D,b1,b2⟩:=this
    exact ⟨fn,tmps,D,by rw [get]; simpa [dh] using b1,b2⟩
   | iter iK since last seen=>exact ⟨this.1,this.2.1,by rw [get]; simpa [dh] using this.2.2⟩
   | iT l pos=>exact ⟨this.1,this.2.1,by rw [get]; simpa [dh] using this.2.2⟩
 ·rw [b9] at I
  by_cases J:j=id
  ·simp [J] at I
  ·simp [J] at I; exact h.one j mI j9 I hx
 ·rw [b9] at I
  by_cases J:j=id
  ·rw [J,hX] at hx; cases hx
  ·simp [J] at I; exact h.fx j o I hx
 ·rw [get]
  have:(c.ρ id).1≠b:=fun he=>by have:=hn id (h.live id _ hg) he; rw [hX] at this; cases this
  simp [this]
theorem Rel.setIter {id iK since last last':Nat}{seen seen':List Nat}(h:Rel c σ w)(hg:σ.tr.get id=some (.iter iK since last seen)):
  Rel c (σ.put id (some (.iter iK since last' seen'))) { w with heap:=w.heap.setIfInBounds (c.ρ id).1 (.mapIter (some (c.ρ iK).1) since seen'.toArray last') } ∧
  bY c w c { w with heap:=w.heap.setIfInBounds (c.ρ id).1 (.mapIter (some (c.ρ iK).1) since seen'.toArray last') }:=by
 obtain ⟨CK,qY,hb⟩:=h.obj id _ hg
 have a_:(c.ρ id).1<w.heap.size:=(Array.getElem?_eq_some_iff.1 hb).1
 have hX:=h.tw hg (by intro _ _ he; cases he)
 have get:∀i,({ w with heap:=w.heap.setIfInBounds (c.ρ id).1 (.mapIter (some (c.ρ iK).1) since seen'.toArray last') }:World).heap[i]?=if (c.ρ id).1=i then some (.mapIter (some (c.ρ iK).1) since seen'.toArray last') else w.heap[i]?:=by
  intro i; simp only [ji,a_,bC]
 have rows:∀i,rowSize { w with heap:=w.heap.setIfInBounds (c.ρ id).1 (.mapIter (some (c.ρ iK).1) since seen'.toArray last') } i=rowSize w i:=by
  intro i
  unfold rowSize
  rw [get]
  by_cases hi:(c.ρ id).1=i
  ·subst hi; simp [hb]
  ·simp [hi]
 refine ⟨⟨h.next,fun j o I => ?_,fun j I=>by simpa using h.je j I,fun j I=>by rw [rows]; exact h.zz j I,fun i j o o' hi I he => ?_,fun j o I => ?_,fun j mI j9 I hx => ?_,fun j o I hx => ?_⟩,
  ⟨Ext.refl c,by simp,fun b _=>rows b,fun b _ hn => ?_,fun j h1 h2=>by omega,rfl,rfl⟩⟩
 ·rw [b9] at I
  by_cases J:j=id
  ·subst J; exact h.live j _ hg
  ·simp [J] at I; exact h.live j o I
 ·rw [b9] at hi I
  have mX:∃o,σ.tr.get i=some o:=by
   by_cases jr:i=id
   ·subst jr; exact ⟨_,hg⟩
   ·simp [jr] at hi; exact ⟨_,hi⟩
  have mY:∃o,σ.tr.get j=some o:=by
   by_cases jr:j=id
   ·subst jr; exact ⟨_,hg⟩
   ·simp [jr] at I; exact ⟨_,I⟩
  obtain ⟨_,mX⟩:=mX
  obtain ⟨_,mY⟩:=mY
  exact h.inj i j _ _ mX mY he
 ·rw [b9] at I
  by_cases J:j=id
  ·subst J
   simp at I
   subst I
   exact ⟨CK,qY,by rw [get]; simp⟩
  ·simp [J] at I
   have dh:(c.ρ id).1≠(c.ρ j).1:=fun he=>J (h.rS I hg he.symm hX)
   have:=h.obj j o I
   cases o with
   | cells n' uH st' =>
    obtain ⟨a1,a2,D,e',nA,a3,a4⟩:=this
    exact ⟨a1,a2,D,e',nA,by rw [get]; simpa [dh] using a3,a4⟩
   | map es clock=>exact ⟨this.1,by rw [get]; simpa [dh] using this.2⟩
   | loop busy ax env ps as bd =>
    obtain ⟨fn,tmps,D,b1,b2⟩:=this
    exact ⟨fn,tmps,D,by rw [get]; simpa [dh] using b1,b2⟩
   | iter iK since last seen=>exact ⟨this.1,this.2.1,by rw [get]; simpa [dh] using this.2.2⟩
   | iT l pos=>exact ⟨this.1,this.2.1,by rw [get]; simpa [dh] using this.2.2⟩
 ·rw [b9] at I
  by_cases J:j=id
  ·simp [J] at I
  ·simp [J] at I; exact h.one j mI j9 I hx
 ·rw [b9] at I
  by_cases J:j=id
  ·rw [J,hX] at hx; cases hx
  ·simp [J] at I; exact h.fx j o I hx
 ·rw [get]
  have:(c.ρ id).1≠b:=fun he=>by have:=hn id (h.live id _ hg) he; rw [hX] at this; cases this
  simp [this]
theorem Rel.P3 {id pos pos':Nat}{l:List Nat}(h:Rel c σ w)(hg:σ.tr.get id=some (.iT l pos)):
  Rel c (σ.put id (some (.iT l pos'))) { w with heap:=w.heap.setIfInBounds (c.ρ id).1 (.stringIter ⟨(l.map UInt8.ofNat).toArray⟩ pos') } ∧
  bY c w c { w with heap:=w.heap.setIfInBounds (c.ρ id).1 (.stringIter ⟨(l.map UInt8.ofNat).toArray⟩ pos') }:=by
 obtain ⟨CK,qY,hb⟩:=h.obj id _ hg
 have a_:(c.ρ id).1<w.heap.size:=(Array.getElem?_eq_some_iff.1 hb).1
 have hX:=h.tw hg (by intro _ _ he; cases he)
 have get:∀i,({ w with heap:=w.heap.setIfInBounds (c.ρ id).1 (.stringIter ⟨(l.map UInt8.ofNat).toArray⟩ pos') }:World).heap[i]?=if (c.ρ id).1=i then some (.stringIter ⟨(l.map UInt8.ofNat).toArray⟩ pos') else w.heap[i]?:=by
  intro i; simp only [ji,a_,bC]
 have rows:∀i,rowSize { w with heap:=w.heap.setIfInBounds (c.ρ id).1 (.stringIter ⟨(l.map UInt8.ofNat).toArray⟩ pos') } i=rowSize w i:=by
  intro i
  unfold rowSize
  rw [get]
  by_cases hi:(c.ρ id).1=i
  ·subst hi; simp [hb]
  ·simp [hi]
 refine ⟨⟨h.next,fun j o I => ?_,fun j I=>by simpa using h.je j I,fun j I=>by rw [rows]; exact h.zz j I,fun i j o o' hi I he => ?_,fun j o I => ?_,fun j mI j9 I hx => ?_,fun j o I hx => ?_⟩,
  ⟨Ext.refl c,by simp,fun b _=>rows b,fun b _ hn => ?_,fun j h1 h2=>by omega,rfl,rfl⟩⟩
 ·rw [b9] at I
  by_cases J:j=id
  ·subst J; exact h.live j _ hg
  ·simp [J] at I; exact h.live j o I
 ·rw [b9] at hi I
  have mX:∃o,σ.tr.get i=some o:=by
   by_cases jr:i=id
   ·subst jr; exact ⟨_,hg⟩
   ·simp [jr] at hi; exact ⟨_,hi⟩
  have mY:∃o,σ.tr.get j=some o:=by
   by_cases jr:j=id
   ·subst jr; exact ⟨_,hg⟩
   ·simp [jr] at I; exact ⟨_,I⟩
  obtain ⟨_,mX⟩:=mX
  obtain ⟨_,mY⟩:=mY
  exact h.inj i j _ _ mX mY he
 ·rw [b9] at I
  by_cases J:j=id
  ·subst J
   simp at I
   subst I
   exact ⟨CK,qY,by rw [get]; simp⟩
  ·simp [J] at I
   have dh:(c.ρ id).1≠(c.ρ j).1:=fun he=>J (h.rS I hg he.symm hX)
   have:=h.obj j o I
   cases o with
   | cells n' uH st' =>
    obtain ⟨a1,a2,D,e',nA,a3,a4⟩:=this
    exact ⟨a1,a2,D,e',nA,by rw [get]; simpa [dh] using a3,a4⟩
   | map es clock=>exact ⟨this.1,by rw [get]; simpa [dh] using this.2⟩
   | loop busy ax env ps as bd =>
    obtain ⟨fn,tmps,D,b1,b2⟩:=this
    exact ⟨fn,tmps,D,by rw [get]; simpa [dh] using b1,b2⟩
   | iter iK since last seen=>exact ⟨this.1,this.2.1,by rw [get]; simpa [dh] using this.2.2⟩
   | iT l pos=>exact ⟨this.1,this.2.1,by rw [get]; simpa [dh] using this.2.2⟩
 ·rw [b9] at I
  by_cases J:j=id
  ·simp [J] at I
  ·simp [J] at I; exact h.one j mI j9 I hx
 ·rw [b9] at I
  by_cases J:j=id
  ·rw [J,hX] at hx; cases hx
  ·simp [J] at I; exact h.fx j o I hx
 ·rw [get]
  have:(c.ρ id).1≠b:=fun he=>by have:=hn id (h.live id _ hg) he; rw [hX] at this; cases this
  simp [this]
theorem iH {b:Nat}{o:Go.Obj}(h:w.heap[b]?=some o)(I:∀C e f,o≠.cells C e f): (getObj b).run P w=.ok o w:=by
 simp only [getObj,Sem.run,h]
theorem ju {b:Nat}{o o':Go.Obj}(h:w.heap[b]?=some o)(I:∀C e f,o≠.cells C e f): (setObj b o').run P w=.ok () { w with heap:=w.heap.setIfInBounds b o' }:=by
 simp only [setObj,Sem.run,h]
end
end Go.Proofs.YtefepnnfphdkpaaGreat.Am
