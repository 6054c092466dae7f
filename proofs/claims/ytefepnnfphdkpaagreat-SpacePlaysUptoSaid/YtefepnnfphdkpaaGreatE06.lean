/- SpacePlays: a part of its proof; conditions: its statement's. -/
import Derived.Test.YtefepnnfphdkpaaGreatE05
namespace Go.Proofs.YtefepnnfphdkpaaGreat.Am
open Go
section
variable {P:Program} {c:Ctx} {σ:H} {w:World}
def gE (P:Program)(s:Sem Value)(c:Ctx)(w:World)(v:V)(I:H): Prop :=
 ∃w' c',s.run P w=.ok (conc c' v) w'∧wf c' v∧Rel c' I w'∧cF c w c' w'
def NB (P:Program)(s:Sem Unit)(c:Ctx)(w:World)(I:H): Prop :=
 ∃w' c',s.run P w=.ok () w'∧Rel c' I w'∧cF c w c' w'
theorem gE.same {s:Sem Value}{v:V}(h:Rel c σ w)(I:s.run P w=.ok (conc c v) w∧wf c v): gE P s c w v σ :=
 ⟨w,c,I.1,I.2,h,cF.refl c w⟩
theorem rq {cs:List V}(h:Rel c σ w)(I:∀v∈cs,wf c v∧storable v=true)(e:TypeId):
  Rel (c.grow w.heap.size 0 cs.length) (newRow σ cs) (w.alloc (.cells (cs.map (conc c)).toArray e))∧cF c w (c.grow w.heap.size 0 cs.length) (w.alloc (.cells (cs.map (conc c)).toArray e)):=by
 have:=h.newRow I e []
 simpa [newRow] using this
theorem EV (c:Ctx)(b size:Nat): conc (c.grow b 0 size) (.ptr c.N 0)=.pointer (some ⟨b,0,none⟩):=by
 simp [conc,bh]
theorem KS {t:TypeId}{z:V}(h:Rel c σ w)(I:zeroT P t=some z):
  gE P (Instr.alloc t true (.tuple #[])) c w (.ptr σ.next 0) (newRow σ z.cells):=by
 obtain ⟨J,z2⟩:=fM I c w
 obtain ⟨g1,g2⟩:=rq h (fun v hv=>⟨jm z2 v hv,lq I v hv⟩) t
 refine ⟨_,_,?_,?_,g1,g2⟩
 ·rw [h.next,EV]
  simp [Instr.alloc,J,newVar,Go.newRow,fy]
 ·simp [wf,h.next,kn]
theorem Q_ {t:TypeId}{v:V}(h:Rel c σ w)(hv:wf c v)(hs:v.cells.all storable=true):
  gE P (Instr.box t (conc c v)) c w (.ptr σ.next 0) (newRow σ v.cells):=by
 obtain ⟨J,g2⟩:=rq h (fun x I=>⟨jm hv x I,(List.all_eq_true.1 hs) x I⟩) t
 refine ⟨_,_,?_,?_,J,g2⟩
 ·rw [h.next,EV]
  simp [Instr.box,newVar,Go.newRow,fy]
 ·simp [wf,h.next,kn]
theorem lu (z:List V)(n:Nat): (repeatL z n).length=n*z.length:=by
 induction n with
 | zero=>simp [repeatL]
 | succ n I=>simp [repeatL,I,Nat.succ_mul,uV]
theorem GY (z:List V)(n:Nat): ∀i,i<n*z.length→(repeatL z n)[i]?=z[i%z.length]?:=by
 induction n with
 | zero=>intro i hi; simp at hi
 | succ n J =>
  intro i hi
  rw [Nat.succ_mul] at hi
  simp only [repeatL]
  by_cases I:i<z.length
  ·rw [iF I,kY I]
  ·rw [me (by omega),J _ (by omega)]
   congr 1
   have:=Nat.mod_eq_sub_mod (show i≥z.length by omega)
   rw [this]
theorem jF {z:List V}{n:Nat}{v:V}(h:v∈repeatL z n): v∈z:=by
 induction n with
 | zero=>simp [repeatL] at h
 | succ n I =>
  simp only [repeatL,pK] at h
  rcases h with h | h
  ·exact h
  ·exact I h
theorem mP (c:Ctx)(z:List V)(n:Nat)(hz:1≤z.length):
  ((Array.range (n*z.length)).map fun i=>((z.map (conc c)).toArray)[i%((z.map (conc c)).toArray).size]!)=((repeatL z n).map (conc c)).toArray:=by
 apply pH
 intro i
 by_cases hi:i<n*z.length
 ·have I:i%z.length<z.length:=yY _ hz
  have J:=GY z n i hi
  rw [aN I] at J
  simp only [Array.getElem?_map,Array.getElem?_range,hi,bE,iI,List.size_toArray,dF,m6,m8,J]
  congr 1
  rw [getElem!_pos _ _ (by simpa using I)]
  simp
 ·have h3:(repeatL z n).length≤i:=by rw [lu]; omega
  simp [hi,h3]
theorem A7 {t:TypeId}{n:Nat}{l:List (Nat×V)}{v:V}{J:H}(h:Rel c σ w)(I:buildSliceV P σ t n l=some (v,J))(hl:∀x∈l,wf c x.2):
  gE P (Instr.buildSlice t n (l.map fun x=>(x.1,conc c x.2)).toArray) c w v J:=by
 unfold buildSliceV at I
 generalize ht:P.underlying t=dt at I
 split at I
 ·rename_i e
  cases hk:bq P e with
  | none=>simp [hk] at I
  | some k =>
   cases hz:zeroT P e with
   | none=>simp [hk,hz] at I
   | some z =>
    simp only [hk,hz] at I
    cases hq:(Nat.beq z.cells.length k&&Nat.ble (n*k) 65536&&Nat.ble 1 k) with
    | false=>simp [hq] at I
    | true =>
     simp only [hq,ag] at I
     simp only [aJ,beq_iff,aF] at hq
     obtain ⟨⟨q1,q2⟩,q3⟩:=hq
     obtain ⟨z1,z2⟩:=fM hz c w
     cases hf:fillV (fun i=>some (i*k,k)) (repeatL z.cells n) l with
     | none=>simp [hf] at I
     | some cs =>
      simp only [hf] at I
      cases hs:cs.all storable with
      | false=>simp [hs] at I
      | true =>
       simp only [hs,ag,ak,aC] at I
       obtain ⟨rfl,rfl⟩:=I
       obtain ⟨f1,f2,f3⟩:=y5 (c:=c) _ l _ cs hf (fun v hv=>jm z2 v (jF hv)) hl
       obtain ⟨g1,g2⟩:=rq h (fun v hv=>⟨f2 v hv,(List.all_eq_true.1 hs) v hv⟩) e
       refine ⟨_,_,?_,?_,g1,g2⟩
       ·have Y_:¬ (n*k>2^24):=by omega
        have Aj:((Array.range (n*k)).map fun i=>((z.cells.map (conc c)).toArray)[i%((z.cells.map (conc c)).toArray).size]!)=((repeatL z.cells n).map (conc c)).toArray:=by
         rw [←q1]; exact mP c z.cells n (by omega)
        by_cases h0:n*k=0
        ·have lI:(repeatL z.cells n)=[]:=by
          have:(repeatL z.cells n).length=0:=by rw [lu,q1]; exact h0
          exact List.length_eq_zero_iff.1 this
         rw [lI] at f1
         simp only [List.map_nil] at f1
         simp only [Instr.buildSlice,Sem.run_bind,run_underlying ht,Result.andThen_ok,cC hk,h0,bE]
         have Ak:(Array.map (fun (_:Nat)=>(default:Value)) (Array.range 0)) = #[]:=by simp [Array.range]
         simp [Ak,f1,Go.newRow,h.next,conc,bh]
        ·simp only [Instr.buildSlice,Sem.run_bind,run_underlying ht,Result.andThen_ok,cC hk,Y_,bG,h0,Sem.run_pure,z1,fy,Aj,f1]
         simp [Go.newRow,h.next,conc,bh]
       ·simp [wf,h.next,kn]
 ·simp at I
theorem xh (c:Ctx){l:List Nat}(I:∀x∈l,x<256): ((⟨(l.map UInt8.ofNat).toArray⟩:ByteArray).data.map fun b=>Value.int .u8 b.toNat)=((ofBytes l).map (conc c)).toArray:=by
 simp only [List.map_toArray,ofBytes,yU]
 congr 1
 refine nZ fun x J => ?_
 simp [conc,rJ,kY (I x J)]
theorem uo {l:List Nat}{v:V}(h:v∈ofBytes l): ∃n:Nat,v=.int .u8 n:=by
 simp only [ofBytes,m_] at h
 obtain ⟨n,_,rfl⟩:=h
 exact ⟨n,rfl⟩
theorem KT {s d:TypeId}{x v:V}{eL:H}(h:Rel c σ w)(J:convB P σ s d x=some (v,eL))(hx:wf c x):
  gE P (convert s d (conc c x)) c w v eL:=by
 unfold convB at J
 generalize hs:P.underlying s=ds at J
 generalize hd:P.underlying d=dd at J
 split at J
 ·rename_i e l
  generalize he:P.underlying e=de at J
  split at J
  ·cases hk:bq P e with
   | none=>simp [hk] at J
   | some k =>
    simp only [hk] at J
    cases hq:Nat.beq k 1 with
    | false=>simp [hq] at J
    | true =>
     have:=beq_iff.1 hq
     subst this
     simp only [hq,ag,ak,aC] at J
     obtain ⟨rfl,rfl⟩:=J
     have hl:∀y∈l,y<256:=by simpa [wf] using hx
     have fC:(⟨(l.map UInt8.ofNat).toArray⟩:ByteArray).size=l.length:=by simp [ByteArray.size]
     generalize Cy:(Question.appendCap l.length 0 e).cut (w.tape w.drawn (.appendCap l.length 0 e))=cap
     have aad:l.length≤cap:=by rw [←Cy]; simp [Question.cut]
     obtain ⟨C,Td⟩:∃C:Array Value,C=((ofBytes l).map (conc c)).toArray++Array.replicate (cap-l.length) (.int .u8 0):=⟨_,rfl⟩
     have hC:C.size=cap:=by simp [Td,ofBytes]; omega
     have xj:(convert s d (conc c (.str l))).run P w=.ok (.slice (some ⟨w.heap.size,0,none⟩) l.length cap) (w.drew.alloc (.cells C e (cap,cap+1))):=by
      simp only [conc,convert,Sem.run_bind,run_underlying hs,run_underlying hd,run_underlying he,Result.andThen_ok]
      simp only [Conv.stringToBytes,Sem.run_bind,run_choose,fC,Question.forced,dW,bG,Result.andThen_ok,Cy,xh c hl,←Td]
      simp only [Go.newRow,Sem.run_bind,run_newObj,Result.andThen_ok,Sem.run_pure,markStringish,run_shape]
      have I:World.shape? { w.drew with heap:=w.drew.heap.push (.cells C e) } w.drew.heap.size=some (e,cap):=by
       simp only [World.shape?,Ce,bE,hC]
      simp only [World.drew] at I ⊢
      rw [I]
      simp only [run_freeze,Result.andThen_ok]
      congr 1
      simp only [World.freeze,World.alloc]
      simp only [Nat.one_ne_zero,bG]
      congr 1
      apply pH
      intro i
      rw [Cb]
      simp only [Ce]
      by_cases hi:w.heap.size=i
      ·subst hi; simp
      ·simp [hi,iM hi]
     have hex:=h.drew
     have g:=hex.new (.cells l.length (ofBytes l) true) (.cells C e (cap,cap+1)) 0 rfl ?_
     ·obtain ⟨g1,g2⟩:=g
      have Te:objSize (.cells C e (cap,cap+1))=cap:=by simp [objSize,hC]
      rw [Te] at g1 g2
      refine ⟨_,_,?_,?_,g1,(cF.drew c w).trans g2⟩
      ·rw [xj]
       simp [conc,h.next,Ctx.room,Ctx.grow]
      ·simp [wf,h.next,Ctx.room,Ctx.grow]; omega
     ·have Te:objSize (.cells C e (cap,cap+1))=cap:=by simp [objSize,hC]
      rw [Te]
      refine ⟨by simp [ofBytes],fun v hv => ?_,C,e,(cap,cap+1),by rw [bh,gX]; simp,by rw [bh]; simp only; omega,fun j v hv => ?_,by simp [FzOk,hC]⟩
      ·obtain ⟨n,rfl⟩:=uo hv
       exact ⟨by simp [wf],rfl⟩
      ·rw [bh]
       obtain ⟨hj,Ae⟩:=List.getElem?_eq_some_iff.1 hv
       obtain ⟨n,rfl⟩:=uo (a_ hv)
       rw [Td,Array.getElem?_append_left (by simpa using hj)]
       simp [hv,conc]
  ·simp at J
 ·rename_i e' e id off len cap
  generalize he:P.underlying e=de at J
  split at J
  ·rename_i sF n cs hg
   cases hq:Nat.beq s d with
   | false=>simp [hq] at J
   | true =>
    have Za:=beq_iff.1 hq
    subst Za
    simp only [hq,ag,ak,aC] at J
    obtain ⟨rfl,rfl⟩:=J
    have HY:e'=e:=by rw [hs] at hd; simpa using hd
    subst HY
    obtain ⟨hn,KU,C,el,fz,hb,hle,hc,u7⟩:=h.obj id _ hg
    simp only [FzOk] at u7
    subst u7
    have g:=h.HW (st':=true) (o_:=(C.size,C.size+1)) (C':=C) (cs':=cs) hg hb rfl hn KU hc (by simp [FzOk])
    refine ⟨_,c,?_,hx,g.1,g.2⟩
    have bC:(c.ρ id).1<w.heap.size:=(Array.getElem?_eq_some_iff.1 hb).1
    have Tf:∃a n m,conc c (.sl id off len cap)=.slice (some a) n m∧a.block=(c.ρ id).1:=by
     cases cap with
     | exact k=>exact ⟨⟨(c.ρ id).1,(c.ρ id).2+off,none⟩,len,k,by simp only [conc],rfl⟩
     | rest gW alt=>exact ⟨⟨(c.ρ id).1,(c.ρ id).2+(if c.room id off gW=0 then alt else off),none⟩,len,c.room id off gW,by simp only [conc],rfl⟩
    obtain ⟨a,n',m',Tf,lY⟩:=Tf
    have I:World.shape? w a.block=some (el,C.size):=by simp [World.shape?,lY,hb]
    rw [Tf]
    simp only [convert,Sem.run_bind,run_underlying hs,run_underlying he,Result.andThen_ok,beq_self_eq_true,markStringish,run_shape,I,run_freeze,Sem.run_pure]
    congr 1
    simp only [World.freeze,World.setRow,Nat.one_ne_zero,bG,lY]
    congr 1
    apply pH
    intro i
    rw [Cb,mc]
    by_cases hi:(c.ρ id).1=i
    ·subst hi
     rw [aq rfl,aq rfl,hb]
     simp [bC]
    ·simp [hi]
  ·simp at J
 ·simp at J
theorem tL {x:Int}(I:0≤x)(h1:x<9223372036854775808): IntKind.i64.wrap x=x:=by
 have J:x%(2^IntKind.i64.bits:Int)=x:=Int.emod_eq_of_lt I (by simp [IntKind.bits]; omega)
 have h4:¬ (x≥(2^(IntKind.i64.bits-1):Int)):=by simp [IntKind.bits]; omega
 simp only [IntKind.wrap,J]
 simp [h4]
theorem Cz {t:TypeId}{a b v:V}{eL:H}(h:Rel c σ w)(I:makeSliceV P σ t a b=some (v,eL)):
  gE P (Instr.makeSlice t (conc c a) (conc c b)) c w v eL:=by
 unfold makeSliceV at I
 generalize ht:P.underlying t=dt at I
 split at I
 ·rename_i e
  split at I
  ·rename_i i z k1 l k2 n hi hz
   cases hq:(decide (0≤l)&&decide (l≤n)&&decide (n<1073741824)&&Nat.ble i.bytes 4096&&Nat.beq z.cells.length i.size&&Nat.ble 1 i.size) with
   | false=>simp [hq] at I
   | true =>
    simp only [hq,ag,ak,aC] at I
    obtain ⟨rfl,rfl⟩:=I
    simp only [aJ,eu,beq_iff,aF] at hq
    obtain ⟨⟨⟨⟨⟨q1,q2⟩,q3⟩,q4⟩,q5⟩,q6⟩:=hq
    obtain ⟨z1,z2⟩:=fM hz c w
    have hlen:(repeatL z.cells n.toNat).length=n.toNat*i.size:=by rw [lu,q5]
    have g:=rq (cs:=repeatL z.cells n.toNat) h (fun v hv=>⟨jm z2 v (jF hv),lq hz v (jF hv)⟩) e
    obtain ⟨g1,g2⟩:=g
    have Zb:newRow σ (repeatL z.cells n.toNat)=σ.new (.cells (n.toNat*i.size) (repeatL z.cells n.toNat) false):=by simp [newRow,hlen]
    rw [Zb] at g1
    refine ⟨_,_,?_,?_,g1,g2⟩
    ·have w1:=tL q1 (by omega)
     have w2:=tL (x:=n) (by omega) (by omega)
     have hb:¬ ((i.bytes:Int)*n>2^48):=by
      have:(i.bytes:Int)*n≤4096*1073741824:=Int.mul_le_mul (by omega) (by omega) (by omega) (by omega)
      omega
     have HZ:¬ (n<0):=by omega
     have Du:¬ (l<0):=by omega
     have Tg:¬ (l>n):=by omega
     have fC:(sizeOf e).run P w=.ok i.size w:=by simp [sizeOf,typeInfo,hi]
     have KV:(typeInfo e).run P w=.ok i w:=by simp [typeInfo,hi]
     simp only [Instr.makeSlice,Sem.run_bind,run_underlying ht,Result.andThen_ok,conc,asInt,asIntOf,Sem.run_pure,KV,w1,w2]
     have J:(((decide (n<0)||decide ((i.bytes:Int)*n>2^48))||decide (l<0))||decide (l>n))=false:=by
      simp only [HZ,hb,Du,Tg,pP,Bool.or_self]
     rw [J]
     simp only [dW,bG]
     by_cases h0:n.toNat*i.size=0
     ·have hn:n.toNat=0:=by
       rcases Nat.mul_eq_zero.1 h0 with e1 | e1
       ·exact e1
       ·omega
      rw [hn]
      have Ak:(Array.map (fun (_:Nat)=>(default:Value)) (Array.range 0)) = #[]:=by simp [Array.range]
      simp [Go.newRow,h.next,bh,repeatL,fC,Ak]
     ·have Aj:((Array.range (n.toNat*i.size)).map fun j=>((z.cells.map (conc c)).toArray)[j%((z.cells.map (conc c)).toArray).size]!)=((repeatL z.cells n.toNat).map (conc c)).toArray:=by
       rw [←q5]; exact mP c z.cells n.toNat (by omega)
      have EW:(conc c z).cells=(z.cells.map (conc c)).toArray:=fy c z
      simp only [Sem.run_bind,Sem.run_pure,run_askRoom,Result.andThen_ok,fC,h0,bG,z1,EW,Aj,Go.newRow,run_newObj]
      simp [h.next,bh]
    ·simp [wf,h.next,kn]; omega
  ·simp at I
 ·simp at I
theorem GZ (h:Rel c σ w)(t:TypeId): gE P (Instr.makeMap t none) c w (.map σ.next) (σ.new (.map [] 0)):=by
 have g:=h.new (.map [] 0) (.map #[] 0) 0 rfl ⟨by simp,by rw [bh,gX]; simp⟩
 refine ⟨_,_,?_,?_,g.1,g.2⟩
 ·simp [Instr.makeMap,conc,h.next,bh]
 ·simp [wf,h.next,kn]
theorem A8 {α β:Type}(g:α→β)(f:α→α)(f':β→β)(I:∀x,g (f x)=f' (g x)): ∀(l:List α) (k:Nat),(setNth l k f).map g=(l.map g).modify k f':=by
 intro l
 induction l with
 | nil=>intro k; simp [setNth]
 | cons x l J =>
  intro k
  cases k with
  | zero=>simp [setNth,I]
  | succ k=>simp only [setNth,cH (uQ k),ay,uI,bQ,J,List.modify_succ_cons]
theorem A9 {α:Type}{f:α→α}: ∀ {l:List α} {k:Nat} {x:α},x∈setNth l k f→x∈l∨∃y∈l,x=f y:=by
 intro l
 induction l with
 | nil=>intro k x h; simp [setNth] at h
 | cons y l I =>
  intro k x h
  cases k with
  | zero =>
   simp only [setNth,cN,ag,ij] at h
   rcases h with rfl | h
   ·exact .inr ⟨y,by simp,rfl⟩
   ·exact .inl (by simp [h])
  | succ k =>
   simp only [setNth,cH (uQ k),ay,ij] at h
   rcases h with rfl | h
   ·exact .inl (by simp)
   ·rcases I h with h | ⟨z,J,rfl⟩
    ·exact .inl (by simp [h])
    ·exact .inr ⟨z,by simp [J],rfl⟩
theorem Je {α:Type}: ∀(l:List α) (k:Nat),jJ l k=l.eraseIdx k:=by
 intro l
 induction l with
 | nil=>intro k; simp [jJ]
 | cons x l I =>
  intro k
  cases k with
  | zero=>simp [jJ]
  | succ k=>simp only [jJ,cH (uQ k),ay,uI,I,List.eraseIdx_cons_succ]
theorem G0 {α β:Type}(g:α→β): ∀(l:List α) (k:Nat),(jJ l k).map g=(l.map g).eraseIdx k:=by
 intro l
 induction l with
 | nil=>intro k; simp [jJ]
 | cons x l I =>
  intro k
  cases k with
  | zero=>simp [jJ]
  | succ k=>simp only [jJ,cH (uQ k),ay,uI,bQ,I,List.eraseIdx_cons_succ]
theorem Al {d:TypeDesc}{a b:V}(h:keyBeq d a b=some true)(J:wf c a)(hb:wf c b): conc c a=conc c b∧∀n,Instr.sameBits n (conc c b) (conc c a)=true:=by
 unfold keyBeq at h
 split at h
 ·rename_i j x k y
  cases I:ikBeq j k with
  | false=>simp [I] at h
  | true =>
   have:=nP I
   subst this
   simp only [I,ag,ak,mO,beq_iff_eq] at h
   subst h
   exact ⟨rfl,fun n=>by cases n <;> simp [conc,Instr.sameBits]⟩
 ·rename_i x y
  simp only [ak,ri,beq_iff_eq] at h
  subst h
  refine ⟨rfl,fun n => ?_⟩
  have:((⟨(x.map UInt8.ofNat).toArray⟩:ByteArray) == ⟨(x.map UInt8.ofNat).toArray⟩)=true:=by
   rw [xg (by simpa [wf] using J) (by simpa [wf] using J),ri]; simp
  cases n <;> simp [conc,Instr.sameBits,this]
 ·simp at h
theorem u_ {t:TypeId}{x k v:V}{eL:H}(h:Rel c σ w)(I:mapUpdateV P σ t x k v=some eL)(hk:wf c k)(hv:wf c v):
  NB P (Instr.mapUpdate t (conc c x) (conc c k) (conc c v)) c w eL:=by
 unfold mapUpdateV at I
 generalize ht:P.underlying t=dt at I
 split at I
 ·rename_i kt et
  generalize hd:P.underlying kt=dk at I
  split at I
  ·rename_i d id
   split at I
   ·rename_i es clock hg
    obtain ⟨hw,hb⟩:=h.obj id _ hg
    have nD:=jz (P:=P) hb (by simp)
    split at I
    ·rename_i b i u sA hf
     simp only [ak] at I
     subst I
     have sE:=kr (P:=P) hd hk hf hw w
     obtain ⟨e,g1,_,g3,g4⟩:=(vL hk es 0 _ hf hw).2 (i,u) rfl
     simp only [k9] at g1
     have PW:=hw e (a_ g1)
     obtain ⟨s1,s2⟩:=Al g4 hk PW.1
     have hm:=h.sC (es':=setNth es i fun e=>(e.1,v,e.2.2)) (k':=clock) hg (by
      intro y J
      rcases A9 J with J | ⟨z,hz,rfl⟩
      ·exact hw y J
      ·exact ⟨(hw z hz).1,hv⟩)
     refine ⟨_,_,?_,hm.1,hm.2⟩
     simp only [Instr.mapUpdate,Sem.run_bind,run_underlying ht,Result.andThen_ok,conc,nD]
     rw [iW hd sA]
     simp only [Result.andThen_ok,sE,iI,Sem.run_bind]
     have Ag:((es.map (bY c)).toArray[i]?.map (·.key)).getD (conc c k)=conc c e.1:=by simp [g1,bY]
     rw [Ag]
     simp only [Instr.keyThatStays,s2,bE,Sem.run_pure,Result.andThen_ok]
     rw [ko hb (by simp)]
     congr 3
     rw [A8 (bY c) _ (fun e=>{ e with val:=conc c v }) (by intro y; simp [bY])]
     rw [Cf]
     congr 2
     -- the key that stays is the elder one
     apply rK
     intro j
     simp only [List.getElem?_modify]
     by_cases hj:i=j
     ·subst hj
      simp [g1,bY,s1]
     ·simp [hj]
    ·rename_i b sA hf
     simp only [ak] at I
     subst I
     have sE:=kr (P:=P) hd hk hf hw w
     have hm:=h.sC (es':=es++[(k,v,clock)]) (k':=clock+1) hg (by
      intro y J
      simp only [pK,uJ] at J
      rcases J with J | rfl
      ·exact hw y J
      ·exact ⟨hk,hv⟩)
     refine ⟨_,_,?_,hm.1,hm.2⟩
     simp only [Instr.mapUpdate,Sem.run_bind,run_underlying ht,Result.andThen_ok,conc,nD]
     rw [iW hd sA]
     simp only [Result.andThen_ok,sE,ig]
     rw [ko hb (by simp)]
     congr 3
     simp [bY]
    ·simp at I
   ·simp at I
  ·simp at I
 ·simp at I
theorem Ed {t:TypeId}{x k v:V}{eL:H}(h:Rel c σ w)(I:mapEntryV P σ t x k=some (v,eL))(hk:wf c k):
  gE P (Instr.mapEntry t (conc c x) (conc c k)) c w v eL:=by
 unfold mapEntryV at I
 generalize ht:P.underlying t=dt at I
 split at I
 ·rename_i kt et
  generalize hd:P.underlying kt=dk at I
  split at I
  ·rename_i d z id hz
   obtain ⟨z1,z2⟩:=fM hz c w
   split at I
   ·rename_i es clock hg
    obtain ⟨hw,hb⟩:=h.obj id _ hg
    have nD:=jz (P:=P) hb (by simp)
    split at I
    ·rename_i b i u J hf
     rw [fG] at I
     have sE:=kr (P:=P) hd hk hf hw w
     obtain ⟨e,g1,_,g3,g4⟩:=(vL hk es 0 _ hf hw).2 (i,u) rfl
     simp only [k9] at g1
     simp only [g1,ak,aC] at I
     obtain ⟨rfl,rfl⟩:=I
     have PW:=hw e (a_ g1)
     obtain ⟨s1,s2⟩:=Al g4 hk PW.1
     have hu:wf c u:=by simp only at g3; rw [g3]; exact PW.2
     refine gE.same h ⟨?_,by simp [wf,eW,hu]⟩
     simp only [Instr.mapEntry,Sem.run_bind,run_underlying ht,Result.andThen_ok,conc,nD]
     rw [iW hd J]
     simp only [Result.andThen_ok,sE,iI,Sem.run_bind]
     have Ag:((es.map (bY c)).toArray[i]?.map (·.key)).getD (conc c k)=conc c e.1:=by simp [g1,bY]
     rw [Ag]
     simp only [Instr.keyThatStays,s2,bE,Sem.run_pure,Result.andThen_ok]
     rw [ko hb (by simp)]
     have Jf:({ w with heap:=w.heap.setIfInBounds (c.ρ id).1 (.map ((es.map (bY c)).toArray.modify i fun e=>{ e with key:=conc c k }) clock) }:World)=w:=by
      have:(es.map (bY c)).toArray.modify i (fun e=>{ e with key:=conc c k })=(es.map (bY c)).toArray:=by
       rw [Cf]
       congr 1
       apply rK
       intro j
       simp only [List.getElem?_modify]
       by_cases hj:i=j
       ·subst hj; simp [g1,bY,s1]
       ·simp [hj]
      rw [this]
      obtain ⟨bC,oM⟩:=Array.getElem?_eq_some_iff.1 hb
      have:w.heap.setIfInBounds (c.ρ id).1 (.map (es.map (bY c)).toArray clock)=w.heap:=by
       apply pH
       intro j
       rw [mc]
       by_cases hj:(c.ρ id).1=j
       ·subst hj; simp [bC,oM]
       ·simp [hj]
      rw [this]
     rw [Jf]
     simp [g1,bY,conc,concL,goInt]
    ·rename_i b J hf
     simp only [ak,aC] at I
     obtain ⟨rfl,rfl⟩:=I
     have sE:=kr (P:=P) hd hk hf hw w
     have hm:=h.sC (es':=es++[(k,z,clock)]) (k':=clock+1) hg (by
      intro y hy
      simp only [pK,uJ] at hy
      rcases hy with hy | rfl
      ·exact hw y hy
      ·exact ⟨hk,z2⟩)
     refine ⟨_,_,?_,by simp [wf,eW,z2],hm.1,hm.2⟩
     simp only [Instr.mapEntry,Sem.run_bind,run_underlying ht,Result.andThen_ok,conc,nD]
     rw [iW hd J]
     simp only [Result.andThen_ok,sE,ig,Sem.run_bind,z1]
     rw [ko hb (by simp)]
     simp [bY,concL,conc,goInt]
    ·simp at I
   ·simp at I
  ·simp at I
 ·simp at I
theorem G1 (c:Ctx)(b:Int): ∀(es:List (V×V×Nat)) (i j:Nat),findBorn es b i=some j →
  (es.map (bY c)).findIdx? (fun e=>(e.born:Int) == b)=some (j-i)∧i≤j:=by
 intro es
 induction es with
 | nil=>intro i j h; simp [findBorn] at h
 | cons e es ih =>
  intro i j h
  simp only [findBorn,mO] at h
  by_cases I:(e.2.2:Int)=b
  ·have:((e.2.2:Int) == b)=true:=by simpa using I
   rw [this,ag,ak] at h
   subst h
   simp [List.findIdx?_cons,bY,I]
  ·have:((e.2.2:Int) == b)=false:=by simpa using I
   rw [this,ay] at h
   obtain ⟨h1,h2⟩:=ih (i+1) j h
   refine ⟨?_,by omega⟩
   rw [bQ,List.findIdx?_cons,h1]
   have J:(((bY c e).born:Int) == b)=false:=by simpa [bY] using I
   rw [J]
   simp
   omega
theorem A_ {t:TypeId}{x s v:V}{J:H}(h:Rel c σ w)(I:entryStoreV σ x s v=some J)(hv:wf c v):
  NB P (Instr.entryStore t (conc c x) (conc c s) (conc c v)) c w J:=by
 unfold entryStoreV at I
 split at I
 ·rename_i id k b
  split at I
  ·rename_i es clock hg
   obtain ⟨hw,hb⟩:=h.obj id _ hg
   have nD:=jz (P:=P) hb (by simp)
   cases hf:findBorn es b 0 with
   | none=>simp [hf] at I
   | some i =>
    simp only [hf,ak] at I
    subst I
    have WG:=(G1 c b es 0 i hf).1
    have hm:=h.sC (es':=setNth es i fun e=>(e.1,v,e.2.2)) (k':=clock) hg (by
     intro y hy
     rcases A9 hy with hy | ⟨z,hz,rfl⟩
     ·exact hw y hy
     ·exact ⟨(hw z hz).1,hv⟩)
    refine ⟨_,_,?_,hm.1,hm.2⟩
    simp only [Instr.entryStore,conc,Sem.run_bind,nD,Result.andThen_ok,asInt,asIntOf,Sem.run_pure]
    have Zc:(es.map (bY c)).toArray.findIdx? (fun e=>(e.born:Int) == b)=some i:=by
     simpa using WG
    rw [Zc]
    simp only
    rw [ko hb (by simp)]
    congr 3
    rw [A8 (bY c) _ (fun e=>{ e with val:=conc c v }) (by intro y; simp [bY])]
    rw [Cf]
  ·simp at I
 ·simp at I
theorem G2 {t ty:TypeId}{x k:V}{eL:H}(h:Rel c σ w)(I:mo P σ t x k=some eL)(hk:wf c k)(ts:Array TypeId)(mQ:ts[0]?=some t):
  ∃w' c',(Builtin.delete_ ts ty #[conc c x,conc c k]).run P w=.ok (.tuple #[]) w'∧Rel c' eL w'∧cF c w c' w':=by
 unfold mo at I
 generalize ht:P.underlying t=dt at I
 split at I
 ·rename_i kt et
  generalize hd:P.underlying kt=dk at I
  split at I
  ·rename_i d id
   split at I
   ·rename_i es clock hg
    obtain ⟨hw,hb⟩:=h.obj id _ hg
    have nD:=jz (P:=P) hb (by simp)
    split at I
    ·rename_i b i u J hf
     simp only [ak] at I
     subst I
     have sE:=kr (P:=P) hd hk hf hw w
     have hm:=h.sC (es':=jJ es i) (k':=clock) hg (by
      intro y hy
      rw [Je] at hy
      exact hw y (List.mem_of_mem_eraseIdx hy))
     refine ⟨_,_,?_,hm.1,hm.2⟩
     simp only [Builtin.delete_,mQ,m6,nY,kW,Sem.run_bind,run_underlying ht,Result.andThen_ok,conc,nD]
     rw [iW hd J]
     simp only [Result.andThen_ok,sE,iI,Sem.run_bind]
     rw [ko hb (by simp)]
     simp [G0]
    ·rename_i b J hf
     simp only [ak] at I
     subst I
     have sE:=kr (P:=P) hd hk hf hw w
     have hm:=h.sC (es':=es) (k':=clock) hg hw
     refine ⟨w,c,?_,h,cF.refl c w⟩
     simp only [Builtin.delete_,mQ,m6,nY,kW,Sem.run_bind,run_underlying ht,Result.andThen_ok,conc,nD]
     rw [iW hd J]
     simp only [Result.andThen_ok,sE,ig,Sem.run_bind]
     rw [ko hb (by simp)]
     obtain ⟨bC,oM⟩:=Array.getElem?_eq_some_iff.1 hb
     have:w.heap.setIfInBounds (c.ρ id).1 (.map (es.map (bY c)).toArray clock)=w.heap:=by
      apply pH
      intro j
      rw [mc]
      by_cases hj:(c.ρ id).1=j
      ·subst hj; simp [bC,oM]
      ·simp [hj]
     simp [this]
    ·simp at I
   ·simp at I
  ·simp at I
 ·simp at I
end
end Go.Proofs.YtefepnnfphdkpaaGreat.Am
